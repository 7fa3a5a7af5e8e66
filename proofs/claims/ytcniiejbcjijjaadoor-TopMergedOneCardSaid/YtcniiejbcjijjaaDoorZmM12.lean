/- Part M12. -/
import Derived.Test.YtcniiejbcjijjaaDoorZmM4
set_option linter.unusedSectionVars false
set_option linter.unusedVariables false
set_option linter.unusedSimpArgs false
set_option linter.defProp false
set_option maxRecDepth 100000
open Go.Proofs.Tryd
namespace Go.Pd
open Go Go.Proofs Go.Shelf Go.Sort
open BitVec renaming isValue -> ZA
open Mg
theorem zi {o:List Int} (h:∀ a b,a<b->b<o.length->o.getD b 0<=o.getD a 0):vI o:=by unfold vI;rw [List.pairwise_iff_getElem];intro i j hi hj hij;have:=h i j hij hj;simpa [List.getD,hi,hj] using this
def jW : Go.Shelf.Ren where
 f:=λx=>match x with | 6=>30 | 15=>49 | 14=>48 | 28=>64 | 29=>65 | 20=>56 | 21=>57 | 22=>58 | 23=>59 | 24=>60 | 25=>61 | 26=>62 | 27=>63 | 46=>75 | 47=>76 | 48=>77 | 49=>78 | 50=>79 | 57=>83 | n=>n
 t:=λx=>match x with | 22=>28 | 24=>3 | 25=>58 | 39=>42 | 53=>71 | 55=>23 | 46=>86 | 45=>85 | 50=>64 | 66=>96 | 70=>100 | 76=>104 | 77=>105 | n=>n
 g:=λx=>x
theorem fS : SlLaysF.n6 prog jW where
 mixed:=by kernel_rfl
 f6:=⟨ "slices.SortFunc[[]int,int]",by decide,func30.trans (congrArg some (by kernel_rfl))⟩
 f14:=⟨ "slices.pdqsortCmpFunc[int]",by decide,func48.trans (congrArg some (by kernel_rfl))⟩
 f15:=func49.trans (congrArg some (by kernel_rfl))
 f20:=⟨ "slices.insertionSortCmpFunc[int]",by decide,func56.trans (congrArg some (by kernel_rfl))⟩
 f21:=⟨ "slices.heapSortCmpFunc[int]",by decide,func57.trans (congrArg some (by kernel_rfl))⟩
 f22:=⟨ "slices.breakPatternsCmpFunc[int]",by decide,func58.trans (congrArg some (by kernel_rfl))⟩
 f23:=⟨ "slices.choosePivotCmpFunc[int]",by decide,func59.trans (congrArg some (by kernel_rfl))⟩
 f24:=⟨ "slices.reverseRangeCmpFunc[int]",by decide,func60.trans (congrArg some (by kernel_rfl))⟩
 f25:=⟨ "slices.partialInsertionSortCmpFunc[int]",by decide,func61.trans (congrArg some (by kernel_rfl))⟩
 f26:=⟨ "slices.partitionEqualCmpFunc[int]",by decide,func62.trans (congrArg some (by kernel_rfl))⟩
 f27:=⟨ "slices.partitionCmpFunc[int]",by decide,func63.trans (congrArg some (by kernel_rfl))⟩
 f28:=func64.trans (congrArg some (by kernel_rfl))
 f29:=func65.trans (congrArg some (by kernel_rfl))
 f46:=⟨ "slices.siftDownCmpFunc[int]",by decide,func75.trans (congrArg some (by kernel_rfl))⟩
 f47:=func76.trans (congrArg some (by kernel_rfl))
 f48:=func77.trans (congrArg some (by kernel_rfl))
 f49:=⟨ "slices.medianAdjacentCmpFunc[int]",by decide,func78.trans (congrArg some (by kernel_rfl))⟩
 f50:=⟨ "slices.medianCmpFunc[int]",by decide,func79.trans (congrArg some (by kernel_rfl))⟩
 f57:=⟨ "slices.order2CmpFunc[int]",by decide,func83.trans (congrArg some (by kernel_rfl))⟩
 t0:=Tryd.underlying0
 a0:=Tryd.isAgg0
 z0:=Tryd.sizeOf0
 v0:=Tryd.zeroValue0
 t3:=Tryd.underlying3
 a3:=Tryd.isAgg3
 z3:=Tryd.sizeOf3
 v3:=Tryd.zeroValue3
 t4:=Tryd.underlying4
 a4:=Tryd.isAgg4
 z4:=Tryd.sizeOf4
 v4:=Tryd.zeroValue4
 t5:=Tryd.underlying5
 a5:=Tryd.isAgg5
 z5:=Tryd.sizeOf5
 v5:=Tryd.zeroValue5
 t9:=Tryd.underlying9
 a9:=Tryd.isAgg9
 z9:=Tryd.sizeOf9
 v9:=Tryd.zeroValue9
 t22:=Tryd.underlying28
 a22:=Tryd.isAgg28
 z22:=Tryd.sizeOf28
 v22:=Tryd.zeroValue28
 a24:=Tryd.isAgg3
 z24:=Tryd.sizeOf3
 t25:=Tryd.underlying58
 a25:=Tryd.isAgg58
 z25:=Tryd.sizeOf58
 v25:=Tryd.zeroValue58
 t39:=Tryd.underlying42
 a39:=Tryd.isAgg42
 z39:=Tryd.sizeOf42
 v39:=Tryd.zeroValue42
 t45:=Tryd.underlying85
 a45:=Tryd.isAgg85
 z45:=Tryd.sizeOf85
 v45:=Tryd.zeroValue85
 t46:=Tryd.underlying86
 a46:=Tryd.isAgg86
 z46:=Tryd.sizeOf86
 v46:=Tryd.zeroValue86
 t50:=Tryd.underlying64
 a50:=Tryd.isAgg64
 z50:=Tryd.sizeOf64
 v50:=Tryd.zeroValue64
 t53:=Tryd.underlying71
 a53:=Tryd.isAgg71
 z53:=Tryd.sizeOf71
 v53:=Tryd.zeroValue71
 t55:=Tryd.underlying23
 a55:=Tryd.isAgg23
 z55:=Tryd.sizeOf23
 v55:=Tryd.zeroValue23
 t66:=Tryd.underlying96
 a66:=Tryd.isAgg96
 z66:=Tryd.sizeOf96
 v66:=Tryd.zeroValue96
 t70:=Tryd.underlying100
 a70:=Tryd.isAgg100
 z70:=Tryd.sizeOf100
 v70:=Tryd.zeroValue100
 t76:=Tryd.underlying104
 a76:=Tryd.isAgg104
 z76:=Tryd.sizeOf104
 v76:=Tryd.zeroValue104
 t77:=Tryd.underlying105
 a77:=Tryd.isAgg105
 z77:=Tryd.sizeOf105
 v77:=Tryd.zeroValue105
def bM : Go.Shelf.Ren where
 f:=λx=>match x with | 6=>33 | 15=>49 | 14=>50 | 28=>64 | 29=>65 | 20=>66 | 21=>67 | 22=>68 | 23=>69 | 24=>70 | 25=>71 | 26=>72 | 27=>73 | 46=>80 | 47=>76 | 48=>77 | 49=>81 | 50=>82 | 57=>84 | n=>n
 t:=λx=>match x with | 22=>55 | 24=>28 | 25=>61 | 39=>42 | 53=>71 | 55=>23 | 46=>86 | 45=>85 | 50=>64 | 66=>96 | 70=>100 | 76=>104 | 77=>105 | n=>n
 g:=λx=>x
theorem rh : SlLaysF.n6 prog bM where
 mixed:=by kernel_rfl
 f6:=⟨ "slices.SortFunc[[][]int,[]int]",by decide,func33.trans (congrArg some (by kernel_rfl))⟩
 f14:=⟨ "slices.pdqsortCmpFunc[[]int]",by decide,func50.trans (congrArg some (by kernel_rfl))⟩
 f15:=func49.trans (congrArg some (by kernel_rfl))
 f20:=⟨ "slices.insertionSortCmpFunc[[]int]",by decide,func66.trans (congrArg some (by kernel_rfl))⟩
 f21:=⟨ "slices.heapSortCmpFunc[[]int]",by decide,func67.trans (congrArg some (by kernel_rfl))⟩
 f22:=⟨ "slices.breakPatternsCmpFunc[[]int]",by decide,func68.trans (congrArg some (by kernel_rfl))⟩
 f23:=⟨ "slices.choosePivotCmpFunc[[]int]",by decide,func69.trans (congrArg some (by kernel_rfl))⟩
 f24:=⟨ "slices.reverseRangeCmpFunc[[]int]",by decide,func70.trans (congrArg some (by kernel_rfl))⟩
 f25:=⟨ "slices.partialInsertionSortCmpFunc[[]int]",by decide,func71.trans (congrArg some (by kernel_rfl))⟩
 f26:=⟨ "slices.partitionEqualCmpFunc[[]int]",by decide,func72.trans (congrArg some (by kernel_rfl))⟩
 f27:=⟨ "slices.partitionCmpFunc[[]int]",by decide,func73.trans (congrArg some (by kernel_rfl))⟩
 f28:=func64.trans (congrArg some (by kernel_rfl))
 f29:=func65.trans (congrArg some (by kernel_rfl))
 f46:=⟨ "slices.siftDownCmpFunc[[]int]",by decide,func80.trans (congrArg some (by kernel_rfl))⟩
 f47:=func76.trans (congrArg some (by kernel_rfl))
 f48:=func77.trans (congrArg some (by kernel_rfl))
 f49:=⟨ "slices.medianAdjacentCmpFunc[[]int]",by decide,func81.trans (congrArg some (by kernel_rfl))⟩
 f50:=⟨ "slices.medianCmpFunc[[]int]",by decide,func82.trans (congrArg some (by kernel_rfl))⟩
 f57:=⟨ "slices.order2CmpFunc[[]int]",by decide,func84.trans (congrArg some (by kernel_rfl))⟩
 t0:=Tryd.underlying0
 a0:=Tryd.isAgg0
 z0:=Tryd.sizeOf0
 v0:=Tryd.zeroValue0
 t3:=Tryd.underlying3
 a3:=Tryd.isAgg3
 z3:=Tryd.sizeOf3
 v3:=Tryd.zeroValue3
 t4:=Tryd.underlying4
 a4:=Tryd.isAgg4
 z4:=Tryd.sizeOf4
 v4:=Tryd.zeroValue4
 t5:=Tryd.underlying5
 a5:=Tryd.isAgg5
 z5:=Tryd.sizeOf5
 v5:=Tryd.zeroValue5
 t9:=Tryd.underlying9
 a9:=Tryd.isAgg9
 z9:=Tryd.sizeOf9
 v9:=Tryd.zeroValue9
 t22:=Tryd.underlying55
 a22:=Tryd.isAgg55
 z22:=Tryd.sizeOf55
 v22:=Tryd.zeroValue55
 a24:=Tryd.isAgg28
 z24:=Tryd.sizeOf28
 t25:=Tryd.underlying61
 a25:=Tryd.isAgg61
 z25:=Tryd.sizeOf61
 v25:=Tryd.zeroValue61
 t39:=Tryd.underlying42
 a39:=Tryd.isAgg42
 z39:=Tryd.sizeOf42
 v39:=Tryd.zeroValue42
 t45:=Tryd.underlying85
 a45:=Tryd.isAgg85
 z45:=Tryd.sizeOf85
 v45:=Tryd.zeroValue85
 t46:=Tryd.underlying86
 a46:=Tryd.isAgg86
 z46:=Tryd.sizeOf86
 v46:=Tryd.zeroValue86
 t50:=Tryd.underlying64
 a50:=Tryd.isAgg64
 z50:=Tryd.sizeOf64
 v50:=Tryd.zeroValue64
 t53:=Tryd.underlying71
 a53:=Tryd.isAgg71
 z53:=Tryd.sizeOf71
 v53:=Tryd.zeroValue71
 t55:=Tryd.underlying23
 a55:=Tryd.isAgg23
 z55:=Tryd.sizeOf23
 v55:=Tryd.zeroValue23
 t66:=Tryd.underlying96
 a66:=Tryd.isAgg96
 z66:=Tryd.sizeOf96
 v66:=Tryd.zeroValue96
 t70:=Tryd.underlying100
 a70:=Tryd.isAgg100
 z70:=Tryd.sizeOf100
 v70:=Tryd.zeroValue100
 t76:=Tryd.underlying104
 a76:=Tryd.isAgg104
 z76:=Tryd.sizeOf104
 v76:=Tryd.zeroValue104
 t77:=Tryd.underlying105
 a77:=Tryd.isAgg105
 z77:=Tryd.sizeOf105
 v77:=Tryd.zeroValue105
theorem tg {P:Program} {ρ:Ren} (L:SlLaysF0.n6 P ρ) (hord:vU P (ρ.f 6)) {g:FuncId} {σ:St} {key sz:Nat}:xU P (ρ.f 6) [.yR key sz 0,.fn g []] σ (.yK []) σ:=by
 refine⟨hord,λM0 w ι vals hS hl hv=>?_⟩;have h0:=hv 0 (by simp);have h1:=hv 1 (by simp);simp only [List.getD_cons_zero,List.getD_cons_succ] at h0 h1;obtain⟨cap,cur0,e0,e1,kk,a1,a2,a3,a4⟩:=h0.wY;obtain⟨cb,f1,f2,f3⟩:=h1.pD
 have hvals:vals = #[.slice (some ⟨ι key,0,none⟩) 0 cap,.func (.func g) #[] cb]:=by
  obtain⟨l⟩:=vals
  match l,hl with
  | [x,y],_=> simp at e1 f1;rw [e1,f1]
 subst hvals;refine(AnyF.slices_SortFunc_none L _ cap _ w).mono λe' w' hh=>?_;obtain⟨rfl,rfl⟩:=hh;exact⟨.tuple #[],ι,rfl,Kept.refl _ _,hS,Nat.le_refl _,λ_ _=>rfl,λk o hk=>.inr ⟨k,o,hk,rfl⟩,.yK rfl (λj hj=>by simp at hj)⟩
theorem yw {a b:Int} (ha:0<=a/\a<=1000) (hb:0<=b/\b<=1000):yY prog 31 [.int .i64 a,.int .i64 b] (.int .i64 (b-a)):=by refine yP func31 XY λhf=>?_;refine xC ?_;exact .drop (by simp) (by simp only [vw,D.int.injEq,true_and,wrap_i64 (show -9223372036854775808<=b-a/\b-a<=9223372036854775807 by omega)])
def fA : D->Int
 | .int _ n=>n
 | _=>0
def bf (d:D):Prop:=∃ n:Int,d = .int .i64 n/\0<=n/\n<=1000
theorem bO (l:List Int):(rows .i64 l).map (λe=>fA (hd e))= l:=by
 unfold rows;rw [List.map_map];conv=>rhs; rw [<- List.map_id l]
 exact List.map_congr_left λx _=>rfl
theorem su {l:List Int} {xX:List (List D)} (h:xX.Perm (rows .i64 l)):∃ m:List Int,xX=rows .i64 m/\m.Perm l:=by
 refine⟨xX.map λe=>fA (hd e),?_,?_⟩
 ·unfold rows;rw [List.map_map];conv=>lhs; rw [<- List.map_id xX]
  refine List.map_congr_left λe he=>?_;have:=h.mem_iff.1 he;simp only [rows,List.mem_map] at this;obtain⟨n,_,rfl⟩:=this;rfl
 ·have:=h.map λe=>fA (hd e);rw [bO] at this;exact this
theorem uy {l:List Int} {i:Nat} (h:i<l.length):fA (hd ((rows .i64 l).getD i []))= l.getD i 0:=by rw [xD _ _ h]; rfl
theorem qB {k:Nat} {o:Ob}:∀ {r:List (Nat × Ob)},St.look r k=some o->vY r k o=r
 | [],h=>by cases h
 | (j,o') :: r,h=>by
  rw [sF] at h;rw [vA]
  by_cases e:j=k
  ·rw [if_pos e] at h ⊢;injection h with h; rw [h]
  ·rw [if_neg e] at h ⊢;rw [qB h]
theorem na {σ:St} {k:Nat} {o:Ob} (h:σ.get k=some o):σ.set k o=σ:=by obtain⟨n,r⟩:=σ;show St.mk n (vY r k o)= _;rw [qB h]
theorem yu {σ:St} {key:Nat} {l:List Int} (hget:σ.get key=some ⟨1,rows .i64 l⟩) (hl:∀ x ∈ l,0<=x/\x<=1000) (hlen:l.length<=1000) :
  xU prog 30 [.yR key 1 l.length,.fn 31 []] σ (.yK []) (σ.set key ⟨1,rows .i64 (uJ l)⟩):=by
 have ho:vU prog 30:=⟨_,func30,by kernel_rfl,by kernel_rfl⟩;have ho2:vU prog 31:=⟨_,func31,by kernel_rfl,by kernel_rfl⟩
 by_cases hne:l = []
 ·subst hne;have h:=tg (ρ:=jW) (σ:=σ) (key:=key) (sz:=1) (g:=31) { fS with } ho
  have e:σ.set key ⟨1,rows .i64 (uJ [])⟩= σ:=by
   have:rows .i64 (uJ [])= rows .i64 []:=by rw [show uJ [] = [] from List.eq_nil_of_length_eq_zero (by rw [pZ]; rfl)]
   rw [this];exact na hget
  rw [e];exact h
 have h:=bU (P:=prog) (ρ:=jW) fS ho (g:=31) (C:=bf) (cf:=λx y=>fA y-fA x) ho2
  (by rintro x y ⟨a,rfl,ha⟩ ⟨b,rfl,hb⟩; exact yw ha hb) (by intro x _; omega) (by intro x y z _ _ _ h1 h2; omega) (by intro x y z _ _ _ h1 h2; omega)
  hget (target:=rows .i64 (uJ l)) (by
   intro e he;simp only [rows,List.mem_map] at he;obtain⟨n,hn,rfl⟩:=he;exact⟨_,rfl,rfl,n,rfl,hl n hn⟩) (by rw [zE]; omega) (by intro c; apply hne; simpa [rows] using c) (by
   intro els' hp hs;obtain⟨m,rfl,hm⟩:=su hp;rw [jy hm (zi λa b hab hb=>?_)];have:=hs a b hab (by rw [zE]; exact hb);change ¬ fA _-fA _<0 at this;rw [uy hb,uy (show a<m.length by omega)] at this;omega)
 rw [zE] at h;exact h
end Go.Pd
