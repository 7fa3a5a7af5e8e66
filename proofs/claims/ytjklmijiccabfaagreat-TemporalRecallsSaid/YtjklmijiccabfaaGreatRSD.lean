/- Part SD. -/
import Derived.Test.YtjklmijiccabfaaGreatRSC
import Derived.Test.YtjklmijiccabfaaGreatRX7
set_option linter.unusedSectionVars false
set_option linter.unusedVariables false
set_option linter.unusedSimpArgs false
set_option linter.defProp false
set_option maxRecDepth 100000
namespace Go.Pd
open Go Go.Proofs Go.Shelf Go.Sort
open Ru
def renSortB : Go.Shelf.Ren where
 f:=fun x=>match x with | 6=>59 | 15=>85 | 14=>84 | 28=>128 | 29=>129 | 20=>120 | 21=>121 | 22=>122 | 23=>123 | 24=>124 | 25=>125 | 26=>126 | 27=>127 | 46=>144 | 47=>145 | 48=>146 | 49=>147 | 50=>148 | 57=>149 | n=>n
 t:=fun x=>match x with | 22=>62 | 24=>53 | 25=>87 | 39=>76 | 53=>143 | 55=>69 | 46=>137 | 45=>136 | 50=>89 | 66=>148 | 70=>152 | 76=>154 | 77=>155 | n=>n
 g:=fun x=>x
theorem laysSortB : SlLaysF.n6 Tryz.prog renSortB where
 mixed:=by kernel_rfl
 f6:=⟨ "slices.SortFunc[[][]int,[]int]",by decide,Tryz.func59.trans (congrArg some (by kernel_rfl))⟩
 f14:=⟨ "slices.pdqsortCmpFunc[[]int]",by decide,Tryz.func84.trans (congrArg some (by kernel_rfl))⟩
 f15:=Tryz.func85.trans (congrArg some (by kernel_rfl))
 f20:=⟨ "slices.insertionSortCmpFunc[[]int]",by decide,Tryz.func120.trans (congrArg some (by kernel_rfl))⟩
 f21:=⟨ "slices.heapSortCmpFunc[[]int]",by decide,Tryz.func121.trans (congrArg some (by kernel_rfl))⟩
 f22:=⟨ "slices.breakPatternsCmpFunc[[]int]",by decide,Tryz.func122.trans (congrArg some (by kernel_rfl))⟩
 f23:=⟨ "slices.choosePivotCmpFunc[[]int]",by decide,Tryz.func123.trans (congrArg some (by kernel_rfl))⟩
 f24:=⟨ "slices.reverseRangeCmpFunc[[]int]",by decide,Tryz.func124.trans (congrArg some (by kernel_rfl))⟩
 f25:=⟨ "slices.partialInsertionSortCmpFunc[[]int]",by decide,Tryz.func125.trans (congrArg some (by kernel_rfl))⟩
 f26:=⟨ "slices.partitionEqualCmpFunc[[]int]",by decide,Tryz.func126.trans (congrArg some (by kernel_rfl))⟩
 f27:=⟨ "slices.partitionCmpFunc[[]int]",by decide,Tryz.func127.trans (congrArg some (by kernel_rfl))⟩
 f28:=Tryz.func128.trans (congrArg some (by kernel_rfl))
 f29:=Tryz.func129.trans (congrArg some (by kernel_rfl))
 f46:=⟨ "slices.siftDownCmpFunc[[]int]",by decide,Tryz.func144.trans (congrArg some (by kernel_rfl))⟩
 f47:=Tryz.func145.trans (congrArg some (by kernel_rfl))
 f48:=Tryz.func146.trans (congrArg some (by kernel_rfl))
 f49:=⟨ "slices.medianAdjacentCmpFunc[[]int]",by decide,Tryz.func147.trans (congrArg some (by kernel_rfl))⟩
 f50:=⟨ "slices.medianCmpFunc[[]int]",by decide,Tryz.func148.trans (congrArg some (by kernel_rfl))⟩
 f57:=⟨ "slices.order2CmpFunc[[]int]",by decide,Tryz.func149.trans (congrArg some (by kernel_rfl))⟩
 t0:=Tryz.underlying0
 a0:=Tryz.isAgg0
 z0:=Tryz.sizeOf0
 v0:=Tryz.zeroValue0
 t3:=Tryz.underlying3
 a3:=Tryz.isAgg3
 z3:=Tryz.sizeOf3
 v3:=Tryz.zeroValue3
 t4:=Tryz.underlying4
 a4:=Tryz.isAgg4
 z4:=Tryz.sizeOf4
 v4:=Tryz.zeroValue4
 t5:=Tryz.underlying5
 a5:=Tryz.isAgg5
 z5:=Tryz.sizeOf5
 v5:=Tryz.zeroValue5
 t9:=Tryz.underlying9
 a9:=Tryz.isAgg9
 z9:=Tryz.sizeOf9
 v9:=Tryz.zeroValue9
 t22:=Tryz.underlying62
 a22:=Tryz.isAgg62
 z22:=Tryz.sizeOf62
 v22:=Tryz.zeroValue62
 a24:=Tryz.isAgg53
 z24:=Tryz.sizeOf53
 t25:=Tryz.underlying87
 a25:=Tryz.isAgg87
 z25:=Tryz.sizeOf87
 v25:=Tryz.zeroValue87
 t39:=Tryz.underlying76
 a39:=Tryz.isAgg76
 z39:=Tryz.sizeOf76
 v39:=Tryz.zeroValue76
 t45:=Tryz.underlying136
 a45:=Tryz.isAgg136
 z45:=Tryz.sizeOf136
 v45:=Tryz.zeroValue136
 t46:=Tryz.underlying137
 a46:=Tryz.isAgg137
 z46:=Tryz.sizeOf137
 v46:=Tryz.zeroValue137
 t50:=Tryz.underlying89
 a50:=Tryz.isAgg89
 z50:=Tryz.sizeOf89
 v50:=Tryz.zeroValue89
 t53:=Tryz.underlying143
 a53:=Tryz.isAgg143
 z53:=Tryz.sizeOf143
 v53:=Tryz.zeroValue143
 t55:=Tryz.underlying69
 a55:=Tryz.isAgg69
 z55:=Tryz.sizeOf69
 v55:=Tryz.zeroValue69
 t66:=Tryz.underlying148
 a66:=Tryz.isAgg148
 z66:=Tryz.sizeOf148
 v66:=Tryz.zeroValue148
 t70:=Tryz.underlying152
 a70:=Tryz.isAgg152
 z70:=Tryz.sizeOf152
 v70:=Tryz.zeroValue152
 t76:=Tryz.underlying154
 a76:=Tryz.isAgg154
 z76:=Tryz.sizeOf154
 v76:=Tryz.zeroValue154
 t77:=Tryz.underlying155
 a77:=Tryz.isAgg155
 z77:=Tryz.sizeOf155
 v77:=Tryz.zeroValue155
def intD : D->Int
 | .int _ n=>n
 | _=>0
theorem rows_dec (l:List Int):(rows .i64 l).map (fun e=>intD (hd e))= l:=by
 unfold rows
 rw [List.map_map]
 conv=>rhs; rw [<- List.map_id l]
 exact List.map_congr_left fun x _=>rfl
theorem setL_same {k:Nat} {o:Ob}:∀ {r:List (Nat × Ob)},St.look r k=some o->setL r k o=r
 | [],h=>by cases h
 | (j,o') :: r,h=>by
  rw [look_cons] at h
  rw [setL_cons]
  by_cases e:j=k
  ·rw [if_pos e] at h ⊢
   injection h with h; rw [h]
  ·rw [if_neg e] at h ⊢
   rw [setL_same h]
def asc (l:List (List Int)):Prop:=l.Pairwise fun a b=>¬ kc b a<0
def ascS (l:List (List Int)):List (List Int):=l.mergeSort fun a b=>decide (¬ kc b a<0)
theorem ascS_perm (l:List (List Int)):(ascS l).Perm l:=List.mergeSort_perm l _
theorem kc_le_total (a b:List Int):¬ kc b a<0\/¬ kc a b<0:=by have:=kc_anti a b; omega
theorem ascS_asc (l:List (List Int)):asc (ascS l):=by
 have:=List.pairwise_mergeSort (le:=fun a b:List Int=>decide (¬ kc b a<0)) (fun a b c h1 h2=>by simp only [decide_eq_true_eq] at h1 h2 ⊢; exact kc_ntrans h2 h1) (fun a b=>by simp only [Bool.or_eq_true,decide_eq_true_eq]; exact kc_le_total a b) l
 unfold asc ascS
 exact this.imp fun h=>by simpa using h
theorem kc_both {a b:List Int} (h1:¬ kc b a<0) (h2:¬ kc a b<0):a=b:=kc_zero (by have:=kc_anti a b; omega)
theorem ascS_eq {l m:List (List Int)} (hp:m.Perm l) (hm:asc m):m=ascS l:=
 List.Perm.eq_of_pairwise (le:=fun a b=>¬ kc b a<0) (fun x y _ _ h1 h2=>kc_both h1 h2) hm (ascS_asc l) (hp.trans (ascS_perm l).symm)
def listD : D->List Int
 | .sl _ els=>els.map fun e=>intD (hd e)
 | _=>[]
theorem listD_sl (l:List Int):listD (.sl 1 (rows .i64 l))= l:=rows_dec l
theorem rl_back {l:List (List Int)} {els:List (List D)} (h:els.Perm (rl l)):∃ m:List (List Int),els=rl m/\m.Perm l:=by
 refine⟨els.map fun e=>listD (hd e),?_,?_⟩
 ·unfold rl
  rw [List.map_map]
  conv=>lhs; rw [<- List.map_id els]
  refine List.map_congr_left fun e he=>?_
  have:=h.mem_iff.1 he
  simp only [rl,List.mem_map] at this
  obtain⟨n,_,rfl⟩:=this
  show [D.sl 1 (rows .i64 n)] = [D.sl 1 (rows .i64 (listD (.sl 1 (rows .i64 n))))]
  rw [listD_sl]
 ·have:=h.map fun e=>listD (hd e)
  have e:(rl l).map (fun e=>listD (hd e))= l:=by
   unfold rl
   rw [List.map_map]
   conv=>rhs; rw [<- List.map_id l]
   exact List.map_congr_left fun x _=>listD_sl x
  rw [e] at this
  exact this
theorem hd_rl {l:List (List Int)} {i:Nat} (h:i<l.length):listD (hd ((rl l).getD i []))= l.getD i []:=by rw [rl_get _ h]; exact listD_sl _
theorem asc_of {o:List (List Int)} (h:∀ a b,a<b->b<o.length->¬ kc (o.getD b []) (o.getD a [])<0):asc o:=by
 unfold asc
 rw [List.pairwise_iff_getElem]
 intro i j hi hj hij
 have:=h i j hij hj
 simpa [List.getD,hi,hj] using this
theorem sortB_runs {σ:St} {key:Nat} {l:List (List Int)} (hget:σ.get key=some ⟨1,rl l⟩) (hne:l ≠ []) (hlen:l.length<=1000) :
  CallT Tryz.prog 59 [.osl key 1 l.length,.fn 60 []] σ (.tup []) (σ.set key ⟨1,rl (ascS l)⟩):=by
 have ho:Ordinary Tryz.prog 59:=⟨_,Tryz.func59,by kernel_rfl,by kernel_rfl⟩
 have ho2:Ordinary Tryz.prog 60:=⟨_,Tryz.func60,by kernel_rfl,by kernel_rfl⟩
 have h:=sort_own (P:=Tryz.prog) (ρ:=renSortB) laysSortB ho (g:=60) (C:=fun d=>∃ l:List Int,d = .sl 1 (rows .i64 l)) (cf:=fun x y=>kc (listD x) (listD y)) ho2
  (by rintro x y ⟨a,rfl⟩ ⟨b,rfl⟩; rw [listD_sl,listD_sl]; exact compare56 a b) (by intro x _; rw [kc_self]; omega) (by intro x y z _ _ _ h1 h2; exact kc_trans h1 h2) (by intro x y z _ _ _ h1 h2; exact kc_ntrans h1 h2)
  hget (target:=rl (ascS l)) (by
   intro e he
   have hp:=rl_pure l e he
   simp only [rl,List.mem_map] at he
   obtain⟨n,hn,rfl⟩:=he
   exact⟨_,rfl,by simpa [D.isPureL] using hp,n,rfl⟩) (by rw [rl_len]; omega) (by intro c; apply hne; simpa [rl] using c) (by
   intro els' hp hs
   obtain⟨m,rfl,hm⟩:=rl_back hp
   rw [ascS_eq hm (asc_of fun a b hab hb=>?_)]
   have:=hs a b hab (by rw [rl_len]; exact hb)
   change ¬ kc (listD _) (listD _)<0 at this
   rw [hd_rl hb,hd_rl (show a<m.length by omega)] at this
   exact this)
 rw [rl_len] at h
 exact h
end Go.Pd
