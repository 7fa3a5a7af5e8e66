/- Part B6. -/
import Derived.Test.YtjmfdgonjighpaaZqBF
set_option linter.unusedSectionVars false
set_option linter.unusedVariables false
set_option linter.unusedSimpArgs false
set_option linter.defProp false
set_option maxRecDepth 100000
open Go.Proofs.Try
open List renaming length_append->γ,length_take->δ,append_nil->ε,mem_map->ζ,take_length->η,drop_eq_nil_of_le->θ,map_congr_left->κ,length_pos_iff->μ,getElem_mem->ν,all_eq_true->ξ
open Nat renaming le_refl->ο,zero_le->π
open Int renaming toNat_natCast->υ
namespace Go.Pd
open Go Go.Proofs Go.Shelf Go.Sort
open BitVec renaming isValue -> ZA
open Rs
def vp : Go.Shelf.Ren where
 f:=λx=>match x with | 6=>76 | 15=>80 | 14=>79 | 28=>89 | 29=>90 | 20=>81 | 21=>82 | 22=>83 | 23=>84 | 24=>85 | 25=>86 | 26=>87 | 27=>88 | 46=>91 | 47=>92 | 48=>93 | 49=>94 | 50=>95 | 57=>96 | n=>n
 t:=λx=>match x with | 22=>47 | 24=>3 | 25=>67 | 39=>115 | 53=>124 | 55=>24 | 46=>118 | 45=>117 | 50=>92 | 66=>126 | 70=>130 | 76=>132 | 77=>133 | n=>n
 g:=λx=>x
theorem oh : SlLaysF.n6 prog vp where
 mixed:=by kernel_rfl
 f6:=⟨ "slices.SortFunc[[]int,int]",by decide,func76.trans (congrArg some (by kernel_rfl))⟩
 f14:=⟨ "slices.pdqsortCmpFunc[int]",by decide,func79.trans (congrArg some (by kernel_rfl))⟩
 f15:=func80.trans (congrArg some (by kernel_rfl))
 f20:=⟨ "slices.insertionSortCmpFunc[int]",by decide,func81.trans (congrArg some (by kernel_rfl))⟩
 f21:=⟨ "slices.heapSortCmpFunc[int]",by decide,func82.trans (congrArg some (by kernel_rfl))⟩
 f22:=⟨ "slices.breakPatternsCmpFunc[int]",by decide,func83.trans (congrArg some (by kernel_rfl))⟩
 f23:=⟨ "slices.choosePivotCmpFunc[int]",by decide,func84.trans (congrArg some (by kernel_rfl))⟩
 f24:=⟨ "slices.reverseRangeCmpFunc[int]",by decide,func85.trans (congrArg some (by kernel_rfl))⟩
 f25:=⟨ "slices.partialInsertionSortCmpFunc[int]",by decide,func86.trans (congrArg some (by kernel_rfl))⟩
 f26:=⟨ "slices.partitionEqualCmpFunc[int]",by decide,func87.trans (congrArg some (by kernel_rfl))⟩
 f27:=⟨ "slices.partitionCmpFunc[int]",by decide,func88.trans (congrArg some (by kernel_rfl))⟩
 f28:=func89.trans (congrArg some (by kernel_rfl))
 f29:=func90.trans (congrArg some (by kernel_rfl))
 f46:=⟨ "slices.siftDownCmpFunc[int]",by decide,func91.trans (congrArg some (by kernel_rfl))⟩
 f47:=func92.trans (congrArg some (by kernel_rfl))
 f48:=func93.trans (congrArg some (by kernel_rfl))
 f49:=⟨ "slices.medianAdjacentCmpFunc[int]",by decide,func94.trans (congrArg some (by kernel_rfl))⟩
 f50:=⟨ "slices.medianCmpFunc[int]",by decide,func95.trans (congrArg some (by kernel_rfl))⟩
 f57:=⟨ "slices.order2CmpFunc[int]",by decide,func96.trans (congrArg some (by kernel_rfl))⟩
 t0:=Try.underlying0
 a0:=Try.isAgg0
 z0:=Try.sizeOf0
 v0:=Try.zeroValue0
 t3:=Try.underlying3
 a3:=Try.isAgg3
 z3:=Try.sizeOf3
 v3:=Try.zeroValue3
 t4:=Try.underlying4
 a4:=Try.isAgg4
 z4:=Try.sizeOf4
 v4:=Try.zeroValue4
 t5:=Try.underlying5
 a5:=Try.isAgg5
 z5:=Try.sizeOf5
 v5:=Try.zeroValue5
 t9:=Try.underlying9
 a9:=Try.isAgg9
 z9:=Try.sizeOf9
 v9:=Try.zeroValue9
 t22:=Try.underlying47
 a22:=Try.isAgg47
 z22:=Try.sizeOf47
 v22:=Try.zeroValue47
 a24:=Try.isAgg3
 z24:=Try.sizeOf3
 t25:=Try.underlying67
 a25:=Try.isAgg67
 z25:=Try.sizeOf67
 v25:=Try.zeroValue67
 t39:=Try.underlying115
 a39:=Try.isAgg115
 z39:=Try.sizeOf115
 v39:=Try.zeroValue115
 t45:=Try.underlying117
 a45:=Try.isAgg117
 z45:=Try.sizeOf117
 v45:=Try.zeroValue117
 t46:=Try.underlying118
 a46:=Try.isAgg118
 z46:=Try.sizeOf118
 v46:=Try.zeroValue118
 t50:=Try.underlying92
 a50:=Try.isAgg92
 z50:=Try.sizeOf92
 v50:=Try.zeroValue92
 t53:=Try.underlying124
 a53:=Try.isAgg124
 z53:=Try.sizeOf124
 v53:=Try.zeroValue124
 t55:=Try.underlying24
 a55:=Try.isAgg24
 z55:=Try.sizeOf24
 v55:=Try.zeroValue24
 t66:=Try.underlying126
 a66:=Try.isAgg126
 z66:=Try.sizeOf126
 v66:=Try.zeroValue126
 t70:=Try.underlying130
 a70:=Try.isAgg130
 z70:=Try.sizeOf130
 v70:=Try.zeroValue130
 t76:=Try.underlying132
 a76:=Try.isAgg132
 z76:=Try.sizeOf132
 v76:=Try.zeroValue132
 t77:=Try.underlying133
 a77:=Try.isAgg133
 z77:=Try.sizeOf133
 v77:=Try.zeroValue133
theorem Xb {P:Program} {ρ:Ren} (L:SlLaysF0.n6 P ρ) (hord:sI P (ρ.f 6)) {g:FuncId} {σ:St} {sz:Nat}:xU P (ρ.f 6) [.sl sz [],.fn g []] σ (.yD []) σ:=by
 refine⟨hord,λM0 w ι vals hS hl hv=>?_⟩;have h0:=hv 0 (by simp);have h1:=hv 1 (by simp);simp only [List.getD_cons_zero,List.getD_cons_succ] at h0 h1
 obtain⟨ad,cap,e1⟩:∃ ad cap,vals.getD 0 undef = .slice ad 0 cap:=by
  rcases h0.kN with ⟨ad,cap,e1,_⟩ | ⟨b,off,cap,vs,e1,_⟩
  ·exact⟨ad,cap,e1⟩
  ·exact⟨_,cap,e1⟩
 obtain⟨cb,f1,f2,f3⟩:=h1.kM
 have hvals:vals = #[.slice ad 0 cap,.func (.func g) #[] cb]:=by
  obtain⟨l⟩:=vals
  match l,hl with
  | [x,y],_=> simp at e1 f1;rw [e1,f1]
 subst hvals;refine(AnyF.slices_SortFunc_none L ad cap _ w).mono λe' w' hh=>?_;obtain⟨rfl,rfl⟩:=hh;exact⟨.tuple #[],ι,rfl,Kept.refl _ _,hS,ο _,λ_ _=>rfl,λk o hk=>.inr ⟨k,o,hk,rfl⟩,.yD rfl (λj hj=>by simp at hj)⟩
def zh : D->Int
 | .int _ n=>n
 | _=>0
theorem Uc (l:List Int):(rows .i64 l).map (λe=>zh (hd e))= l:=by
 unfold rows;rw [List.map_map];conv=>rhs; rw [<- List.map_id l]
 exact κ λx _=>rfl
theorem ZB {l:List Int} {xZ:List (List D)} (h:xZ.Perm (rows .i64 l)):∃ m:List Int,xZ=rows .i64 m/\m.Perm l:=by
 refine⟨xZ.map λe=>zh (hd e),?_,?_⟩
 ·unfold rows;rw [List.map_map];conv=>lhs; rw [<- List.map_id xZ]
  refine κ λe he=>?_;have:=h.mem_iff.1 he;simp only [rows,ζ] at this;obtain⟨n,_,rfl⟩:=this;rfl
 ·have:=h.map λe=>zh (hd e);rw [Uc] at this;exact this
theorem Zw {l:List Int} {i:Nat} (h:i<l.length):zh (hd ((rows .i64 l).getD i []))= l.getD i 0:=by rw [yL _ _ h]; rfl
theorem bD {k:Nat} {o:Ob}:∀ {r:List (Nat × Ob)},St.look r k=some o->wO r k o=r
 | [],h=>by cases h
 | (j,o') :: r,h=>by
  rw [xY] at h;rw [qD]
  by_cases e:j=k
  ·rw [if_pos e] at h ⊢;injection h with h; rw [h]
  ·rw [if_neg e] at h ⊢;rw [bD h]
theorem oo {k:Nat} {o o':Ob}:∀ {r:List (Nat × Ob)},St.look r k=some o->St.look (wO r k o') k=some o'
 | [],h=>by cases h
 | (j,ob) :: r,h=>by
  rw [xY] at h;rw [qD]
  by_cases e:j=k
  ·rw [if_pos e,xY,if_pos e]
  ·rw [if_neg e] at h;rw [if_neg e,xY,if_neg e,oo h]
theorem bE (k:Nat) (a b:Ob):∀ r:List (Nat × Ob),wO (wO r k a) k b=wO r k b
 | []=>rfl
 | (j,ob) :: r=>by
  rw [qD,qD]
  by_cases e:j=k
  ·rw [if_pos e,if_pos e,qD,if_pos e]
  ·rw [if_neg e,if_neg e,qD,if_neg e,bE k a b r]
theorem OV {x y:Int} (hx:wL 12 x=true) (hy:wL 12 y=true):zX prog 77 [.int .i64 x,.int .i64 y] (.int .i64 (Qx x y)):=by
 refine yS func77 Lw λhf=>?_;have hbx:=wB.1 hx;have hby:=wB.1 hy;have hvx:=vM hx;have hvy:=vM hy;refine xB ?_;refine .go (xU.yU (fe x (by omega)) rfl) ?_;rw [hx,if_pos rfl];refine xB ?_;refine .go (xU.yU (fe y (by omega)) rfl) ?_;rw [hy,if_pos rfl]
 by_cases h:wU x=wU y
 ·have h1:(wU x != wU y)= false:=by simpa using h
  simp only [simprocAttr,-ZA,↓zU,↓zD,zV,zT,zW,h1,show IntKind.i64.wrap (x-y)= x-y from wrap_i64 (by omega)];exact .drop (by simp) (by simp [vw,Qx,h])
 ·have h1:(wU x != wU y)= true:=by simpa using h
  simp only [simprocAttr,-ZA,↓zU,↓zD,zV,zT,zW,h1,show IntKind.i64.wrap (wU x-wU y)= wU x-wU y from wrap_i64 (by omega)];exact .drop (by simp) (by simp [vw,Qx,h])
def MC (d:D):Prop:=∃ n:Int,d = .int .i64 n/\wL 12 n=true
theorem QM {σ:St} {key:Nat} {l:List Int} (hget:σ.get key=some ⟨1,rows .i64 l⟩) (hl:∀ x ∈ l,wL 12 x=true) (hlen:l.length<=1000) (zL:l ≠ []) :
  xU prog 76 [.wZ key 1 l.length,.fn 77 []] σ (.yD []) (σ.set key ⟨1,rows .i64 (jM l)⟩):=by
 have ho:sI prog 76:=⟨_,func76,by kernel_rfl,by kernel_rfl⟩;have ho2:sI prog 77:=⟨_,func77,by kernel_rfl,by kernel_rfl⟩;have nz:∀ {x:Int},wL 12 x=true->x≠0:=λh=>(wB.1 h).1
 have h:=Ul (P:=prog) (ρ:=vp) oh ho (g:=77) (C:=MC) (cf:=λx y=>Qx (zh x) (zh y)) ho2
  (by rintro x y ⟨a,rfl,ha⟩ ⟨b,rfl,hb⟩; exact OV ha hb)
  (by rintro x ⟨a,rfl,ha⟩; simp only [zh]; rw [mP (nz ha) (nz ha)]; omega)
  (by rintro x y z ⟨a,rfl,ha⟩ ⟨b,rfl,hb⟩ ⟨c,rfl,hc⟩ h1 h2; simp only [zh] at *; rw [mP (nz ha) (nz hb)] at h1; rw [mP (nz hb) (nz hc)] at h2; rw [mP (nz ha) (nz hc)]; omega)
  (by rintro x y z ⟨a,rfl,ha⟩ ⟨b,rfl,hb⟩ ⟨c,rfl,hc⟩ h1 h2; simp only [zh] at *; rw [mP (nz ha) (nz hb)] at h1; rw [mP (nz hb) (nz hc)] at h2; rw [mP (nz ha) (nz hc)]; omega)
  hget (target:=rows .i64 (jM l)) (by
   intro e he;simp only [rows,ζ] at he;obtain⟨n,hn,rfl⟩:=he;exact⟨_,rfl,rfl,n,rfl,hl n hn⟩) (by rw [wS]; omega) (by intro c; apply zL; simpa [rows] using c) (by
   intro els' hp hs;obtain⟨m,rfl,hm⟩:=ZB hp;have hz:∀ x ∈ l,x≠0:=λx hx=>nz (hl x hx);rw [Uk hz hm ?_];refine List.pairwise_iff_getElem.2 λa b ha hb hab=>?_;have:=hs a b hab (by rw [wS]; exact hb);change ¬ Qx (zh _) (zh _)<0 at this;rw [Zw hb,Zw (show a<m.length by omega)] at this;have ea:m.getD a 0=m[a]:=by simp [List.getD,ha]
   have eb:m.getD b 0=m[b]:=by simp [List.getD,hb]
   rw [ea,eb,mP (hz _ (hm.mem_iff.1 (ν hb))) (hz _ (hm.mem_iff.1 (ν ha)))] at this;omega)
 rw [wS] at h;exact h
def R2 (l:List Int):List Int:=vN l++List.replicate (l.length-(vN l).length) 0
theorem WX {σ:St} {key:Nat} {l:List Int} (hget:σ.get key=some ⟨1,rows .i64 l⟩) (hlen:l.length<=1000) (zL:l ≠ []) :
  xU prog 78 [.wZ key 1 l.length] σ (.wZ key 1 (vN l).length) (σ.set key ⟨1,rows .i64 (R2 l)⟩):=by
 obtain⟨nx,xX⟩:=σ;have hpos:0<l.length:=μ.2 zL;have hg:St.look xX key=some ⟨1,rows .i64 l⟩:=hget
 have whole:vN l=l->(.wZ key 1 (vN l).length=D.wZ key 1 l.length/\(⟨nx,wO xX key ⟨1,rows .i64 (R2 l)⟩⟩:St)= ⟨nx,xX⟩):=by
  intro e;refine⟨by rw [e],?_⟩;have:rows .i64 (R2 l)= rows .i64 l:=by unfold R2; rw [e]; simp
  rw [this,bD hg]
 refine yS func78 Ma λhf=>?_
 by_cases h2:l.length<2
 ·have hd:(l.length:Int)<2:=by omega
  refine yK hd ?_
  have e:vN l=l:=by unfold vN;rw [cH (ο _) (λi h1 h3=>by omega),η]
  obtain⟨e1,e2⟩:=whole e;exact .inl ⟨e1,e2⟩
 have hd:¬ (l.length:Int)<2:=by omega
 refine yK hd ?_
 refine yM (λk:Nat=>[(3,.int .i64 k),(0,.wZ key 1 l.length)]) (λ_=>⟨nx,xX⟩) (λk=>1<=k/\k<=l.length/\∀ i,0<i->i<k->l.getD i 0≠l.getD (i-1) 0) (λk=>l.length-k) 1 ⟨ο _,by omega,λi h1 h2=>by omega⟩ ?_ ?_
 ·exact lQ
 intro i0 ⟨hi1,hi2,hi3⟩;refine wH mixed ?_;by_cases h:i0<l.length
 case neg=>
  have hd:¬ ((i0:Int)<(l.length:Int)):=by omega
  have e:vN l=l:=by unfold vN;rw [cH (ο _) (λi h1 h3=>hi3 i h1 (by omega)),η]
  obtain⟨e1,e2⟩:=whole e;refine yK hd ?_;exact .inl ⟨e1,e2⟩
 have hd:((i0:Int)<(l.length:Int)):=by omega
 have em:IntKind.i64.wrap ((i0:Int)-1)= ((i0-1:Nat):Int):=by rw [wrap_i64 (by omega)]; omega
 by_cases hq:l.getD i0 0=l.getD (i0-1) 0
 case neg=>
  have hq1:(l.getD i0 0==l.getD (i0-1) 0)= false:=by simpa using hq
  simp only [simprocAttr,-ZA,↓zU,↓zD,zV,zT,zW,hd,hg,yL .i64 l h,em,wS,yL .i64 l (show i0-1<l.length by omega),hq1]
  (repeat refine sd ?_)
  refine⟨i0+1,⟨by omega,by omega,λi h1 h3=>?_⟩,?_,by omega⟩
  ·by_cases e:i=i0
   ·rw [e]; exact hq
   ·exact hi3 i h1 (by omega)
  exact jG
 have hq1:(l.getD i0 0==l.getD (i0-1) 0)= true:=by simpa using hq
 simp only [simprocAttr,-ZA,↓zU,↓zD,zV,zT,zW,hd,hg,yL .i64 l h,em,wS,yL .i64 l (show i0-1<l.length by omega),hq1]
 (repeat refine sd ?_)
 have ei:¬ (i0:Int)= 0:=by omega
 have ei2:¬ (i0:Int)= (l.length:Int):=by omega
 refine⟨i0,l.length,rfl,rfl,by omega,by omega,by omega,?_⟩;simp only [υ,if_neg ei,if_neg ei2];have d1:nB l (i0+1)= l.take i0:=by rw [nB,if_pos ⟨by omega,hq⟩,cH (by omega) hi3]
 refine yM (λa:Nat × List Int=>[(5,.int .i64 a.1),(4,.sub key 1 i0 (l.length-i0)),(3,.int .i64 (nB l (i0+a.1)).length),(0,.wZ key 1 l.length)]) (λa=>⟨nx,wO xX key ⟨1,rows .i64 a.2⟩⟩)
  (λa=>1<=a.1/\i0+a.1<=l.length/\a.2.length=l.length/\(nB l (i0+a.1)).length<i0+a.1/\a.2.take (nB l (i0+a.1)).length=nB l (i0+a.1)/\ ∀ j,i0+a.1-1<=j->a.2.getD j 0=l.getD j 0) (λa=>l.length-a.1) (1,l)
  ⟨ο _,by omega,rfl,by rw [d1,δ]; omega,by rw [d1,δ,Nat.min_eq_left (by omega)],λj _=>rfl⟩ ?_ ?_
 ·rw [bD hg]
  (refine yJ.same ?_; simp [vI,Fr.get,d1])
  omega
 intro ⟨q,o⟩ ⟨q1,q2,q3,q4,q5,q6⟩;simp only at q1 q2 q3 q4 q5 q6;have hlk:∀ ob:Ob,St.look (wO xX key ob) key=some ob:=λob=>oo hg;refine wH mixed ?_
 by_cases hp:i0+q<l.length
 ·have hd3:((q:Int)<((l.length-i0:Nat):Int)):=by omega
  have eq1:IntKind.i64.wrap ((q:Int)-1)= ((q-1:Nat):Int):=by rw [wrap_i64 (by omega)]; omega
  have a1:o.getD (i0+q) 0=l.getD (i0+q) 0:=q6 _ (by omega);have a2:o.getD (i0+(q-1)) 0=l.getD (i0+q-1) 0:=by rw [q6 _ (by omega)]; congr 1; omega
  by_cases hq2:l.getD (i0+q) 0=l.getD (i0+q-1) 0
  ·have dd:nB l (i0+(q+1))= nB l (i0+q):=by show nB l ((i0+q)+ 1)= _;rw [nB,if_pos ⟨by omega,hq2⟩]
   have hq3:(l.getD (i0+q) 0 != l.getD (i0+q-1) 0)= false:=by simpa using hq2
   simp only [simprocAttr,-ZA,↓zU,↓zD,zV,zT,zW,hd3,hlk,eq1,wS,yL .i64 o (show i0+q<o.length by omega),yL .i64 o (show i0+(q-1)<o.length by omega),a1,a2,hq3]
   (repeat refine sd ?_)
   refine⟨(q+1,o),⟨by show 1<=q+1; omega,by show i0+(q+1)<=l.length; omega,q3,by show (nB l (i0+(q+1))).length<i0+(q+1); rw [dd]; omega,by show o.take (nB l (i0+(q+1))).length=nB l (i0+(q+1)); rw [dd,q5],λj hj=>q6 j (by change i0+(q+1)-1<=j at hj; omega)⟩,?_,by show l.length-(q+1)<l.length-q; omega⟩
   (refine yJ.same ?_; simp only [vI,Fr.get,simprocAttr,-ZA,zS,dd])
   exact wrap_i64 (by omega)
  ·have dd:nB l (i0+(q+1))= nB l (i0+q)++ [l.getD (i0+q) 0]:=by show nB l ((i0+q)+ 1)= _;rw [nB,if_neg (λc=>hq2 c.2)]
   have dl:(nB l (i0+(q+1))).length=(nB l (i0+q)).length+1:=by rw [dd,γ]; rfl
   have hq3:(l.getD (i0+q) 0 != l.getD (i0+q-1) 0)= true:=by simpa using hq2
   simp only [simprocAttr,-ZA,↓zU,↓zD,zV,zT,zW,hd3,hlk,eq1,wS,yL .i64 o (show i0+q<o.length by omega),yL .i64 o (show i0+(q-1)<o.length by omega),a1,a2,hq3]
   (repeat refine sd ?_)
   have c1:(nB l (i0+q)).length<o.length:=by omega
   have eset:(rows .i64 o).set (nB l (i0+q)).length (((rows .i64 o).getD (nB l (i0+q)).length []).set 0 (D.int .i64 (l.getD (i0+q) 0)))= rows .i64 (o.set (nB l (i0+q)).length (l.getD (i0+q) 0)):=by rw [yL .i64 o c1];exact cg _ _ _ _
   refine⟨(q+1,o.set (nB l (i0+q)).length (l.getD (i0+q) 0)),⟨by show 1<=q+1; omega,by show i0+(q+1)<=l.length; omega,by show (o.set _ _).length=_; rw [List.length_set]; exact q3,by show (nB l (i0+(q+1))).length<i0+(q+1); omega,?_,λj hj=>?_⟩,?_,by show l.length-(q+1)<l.length-q; omega⟩
   ·show (o.set (nB l (i0+q)).length (l.getD (i0+q) 0)).take (nB l (i0+(q+1))).length=_;rw [dl,qY (d:=0) (by rw [List.length_set]; exact c1),ak,if_pos ⟨rfl,c1⟩,dd,List.take_set_of_le (ο _),q5]
   ·change i0+(q+1)-1<=j at hj;show (o.set (nB l (i0+q)).length (l.getD (i0+q) 0)).getD j 0=_;rw [ak,if_neg (by omega)];exact q6 j (by omega)
   ·simp only [bE,eset]
    (refine yJ.same ?_; simp only [vI,Fr.get,simprocAttr,-ZA,zS,dl])
    exact⟨wrap_i64 (by omega),wrap_i64 (by omega)⟩
 ·have hd3:¬ ((q:Int)<((l.length-i0:Nat):Int)):=by omega
  have ed:nB l (i0+q)= vN l:=by unfold vN; rw [show i0+q=l.length by omega]
  have c0:0<(vN l).length:=by have:=Zp l (l.length-1);rw [show l.length-1+1=l.length by omega] at this;exact this
  rw [ed] at q4 q5;refine sC hd3 ed ?_;refine⟨(vN l).length,l.length,rfl,rfl,by omega,by omega,by omega,?_⟩;rw [if_neg (show ¬ ((vN l).length:Int)= 0 by omega),if_neg (show ¬ ((vN l).length:Int)= (l.length:Int) by omega)];simp only [υ,hlk,wS,true_and];refine⟨by omega,by omega,?_⟩;refine⟨0,(vN l).length,rfl,rfl,by omega,by omega,by omega,?_⟩;rw [if_pos rfl];refine .inl ⟨by rw [υ],?_⟩;have e2:(rows .i64 o).take (vN l).length=rows .i64 (vN l):=by rw [aX,q5]
  have e3:(rows .i64 o).drop ((vN l).length+(l.length-(vN l).length))= []:=θ (by rw [wS]; omega)
  have e4:rows .i64 (R2 l)= (rows .i64 o).take (vN l).length++(List.replicate (l.length-(vN l).length) [D.int .i64 0]++(rows .i64 o).drop ((vN l).length+(l.length-(vN l).length))):=by rw [e2,e3,ε,gT,<- Ub]; rfl
  rw [e4];simp only [bE]
end Go.Pd

/- Part B7. -/
set_option maxRecDepth 20000
set_option maxHeartbeats 1000000
namespace Go.Pd
open Go Go.Proofs
open BitVec renaming isValue -> ZA
open Rs
def Vy (c:List Int):List Int:=canon c++List.replicate (c.length-(canon c).length) 0
theorem Z2 {c:List Int} (zL:c ≠ []) (hl:c.length<=1000) (h:∀ x ∈ c,wL 12 x=true):xU prog 74 [.sl 1 (rows .i64 c)] kT (.wZ 0 1 (canon c).length) ⟨1,[(0,⟨1,rows .i64 (Vy c)⟩)]⟩:=by
 have hp:=nJ c;have hsl:(jM c).length=c.length:=hp.length_eq;have hsn:jM c ≠ []:=aT (by rw [hsl]; exact μ.2 zL);have hz:Vy c=R2 (jM c):=by unfold Vy R2; rw [xi h,hsl]
 rw [hz,<- xi h];refine yS func74 MX λhf=>?_;refine xB ?_;refine .go (nf zL hl) ?_;refine xB ?_;refine .go (QM (by simp [St.get,St.look]) h hl zL) ?_;refine xB ?_;have hc:=WX (σ:=⟨1,[(0,⟨1,rows .i64 (jM c)⟩)]⟩) (key:=0) (l:=jM c) (by simp [St.get,St.look]) (by omega) hsn;rw [hsl] at hc;refine .go hc ?_;refine xB ?_;exact .same
theorem SU {c:List Int} (hl:c.length<=1000) (h:∀ x ∈ c,wL 12 x=true):zX prog 74 [.sl 1 (rows .i64 c)] (.sl 1 (rows .i64 (canon c))):=by
 by_cases zL:c = []
 ·subst zL;refine yS func74 MX λhf=>?_;refine xB ?_;refine .go (cq nc) ?_;refine xB ?_;have ho:sI prog 76:=⟨_,func76,by kernel_rfl,by kernel_rfl⟩;refine .go (Xb (ρ:=vp) (g:=77) { oh with } ho) ?_;refine xB ?_
  have hc:zX prog 78 [.sl 1 []] (.sl 1 []):=by refine yS func78 Ma λhf=>?_;refine xB ?_;exact .same
  refine .go (cq hc) ?_;refine xB ?_;have e:canon [] = []:=by decide
  rw [e];exact .same
 ·refine(Z2 zL hl h).ret (.drop (by simp [kT]) (rp (by omega) (sX _ _) ?_ ?_))
  ·rw [wS,Vy,γ]; omega
  ·rw [aX,Vy,List.take_append_of_le_length (ο _),η]
theorem UK (c:List Int):zX prog 58 [.sl 1 (rows .i64 c)] (.yD [.sl 1 (rows .i64 (zc c).1),.bool (zc c).2.1,.int .i64 (zc c).2.2]):=by
 refine yS func58 Lk λhf=>?_
 by_cases h64:64<c.length
 ·have hd:(64:Int)<(c.length:Int):=by omega
  refine yK hd ?_;rw [show zc c=([],false,8) from if_pos h64];exact .drop (by simp) (by simp [vw,sV,rows])
 have hd64:¬ (64:Int)<(c.length:Int):=by omega
 have en:zc c=if c.all (wL 12)= false then([],false,2) else((wF c).1,(wF c).2,0):=if_neg h64;refine yK hd64 ?_
 refine yM (λk:Nat=>[(16,.int .i64 k),(15,.int .i64 c.length),(14,.sl 1 (rows .i64 c)),(0,.sl 1 (rows .i64 c))]) (λ_=>⟨0,[]⟩) (λk=>k<=c.length/\c.all (wL 12)= (c.drop k).all (wL 12)) (λk=>c.length-k) 0 ⟨π _,rfl⟩ ?_ ?_
 ·exact lQ
 intro k ⟨hk,hi⟩;refine wH mixed ?_
 by_cases h:k<c.length
 ·have hd:((k:Int)<(c.length:Int)):=by omega
  rw [drop_cons (d:=0) h,List.all_cons] at hi;simp only [simprocAttr,-ZA,↓zU,↓zD,zV,zT,zW,hd,yL _ _ h]
  (repeat refine sd ?_)
  refine .go (xU.yU (fe (c.getD k 0) (by omega)) rfl) ?_
  cases hx:wL 12 (c.getD k 0)
  ·rw [hx,Bool.false_and] at hi;refine xB ?_;rw [en,if_pos hi];exact .drop (by simp) (by simp [vw,sV,rows])
  ·rw [hx,Bool.true_and] at hi;refine xB ?_;refine⟨k+1,⟨by omega,hi⟩,?_,by omega⟩;exact jG
 have hd:¬ ((k:Int)<(c.length:Int)):=by omega
 rw [θ (by omega),List.all_nil] at hi;have hok:∀ x ∈ c,wL 12 x=true:=ξ.1 hi;rw [if_neg (by rw [hi]; simp)] at en;refine yK hd ?_;refine .go (xU.yU (SU (by omega) hok) (by simp [D.xT,D.xO])) ?_;refine xB ?_;have hcl:=yy c 12;have hcl':(canon c).length<=24:=hcl
 refine yM (λj:Nat=>[(10,.int .i64 j),(9,.sl 1 (rows .i64 (canon c)))]) (λ_=>⟨0,[]⟩) (λj=>1<=j/\∀ i,0<i->i<j->i<(canon c).length->(canon c).getD i 0 ≠ -(canon c).getD (i-1) 0) (λj=>(canon c).length-j) 1 ⟨ο _,λi h1 h2 _=>by omega⟩ ?_ ?_
 ·(refine yJ.same ?_; simp only [vI,Fr.get,simprocAttr,-ZA,zS,Int.natCast_one,Int.cast_ofNat_Int])
  try rfl
 intro j ⟨hj,zL⟩;refine wH mixed ?_
 by_cases h2:j<(canon c).length
 ·have hd2:((j:Int)<((canon c).length:Int)):=by omega
  have em:IntKind.i64.wrap ((j:Int)-1)= ((j-1:Nat):Int):=by rw [wrap_i64 (by omega)]; omega
  have m2:=tX.1 (show (canon c).getD (j-1) 0 ∈ vV c 12 from wR (show j-1<(canon c).length by omega));have lt2:=wB.1 (hok _ m2.1);have eneg:IntKind.i64.wrap (0-(canon c).getD (j-1) 0)= -(canon c).getD (j-1) 0:=Vz (by omega)
  by_cases hq:(canon c).getD j 0 = -(canon c).getD (j-1) 0
  ·have hq1:((canon c).getD j 0 == -(canon c).getD (j-1) 0)= true:=by simpa using hq
   have hb:=eJ.2 (o8 (by omega) h2 hq);simp only [simprocAttr,-ZA,↓zU,↓zD,zV,zT,zW,hd2,yL .i64 (canon c) h2,em,yL .i64 (canon c) (show j-1<(canon c).length by omega),eneg,hq1]
   (repeat refine sd ?_)
   rw [en,show wF c=([],true) from if_pos hb];exact .drop (by simp) (by simp [vw,sV,rows])
  ·have hq1:((canon c).getD j 0 == -(canon c).getD (j-1) 0)= false:=by simpa using hq
   simp only [simprocAttr,-ZA,↓zU,↓zD,zV,zT,zW,hd2,yL .i64 (canon c) h2,em,yL .i64 (canon c) (show j-1<(canon c).length by omega),eneg,hq1]
   (repeat refine sd ?_)
   refine⟨j+1,⟨by omega,λi h3 h4 h5=>?_⟩,?_,by omega⟩
   ·by_cases e:i=j
    ·rw [e]; exact hq
    ·exact zL i h3 (by omega) h5
   exact jG
 ·have hd2:¬ ((j:Int)<((canon c).length:Int)):=by omega
  have hb:¬ qE c 12=true:=λhb=>by obtain⟨i,h3,h4,h5⟩:=Yj (eJ.1 hb);exact zL i h3 (by omega) h4 h5
  refine yK hd2 ?_;rw [en,show wF c=(canon c,false) from if_neg hb];exact .same
open Rs
namespace Rs
def sf (v:Nat) (x:Int):Bool:=v.testBit (wU x).toNat==decide (0<x)
def eF (v:Nat) (c:List Int):Bool:=c.any (sf v)
def sc (v:Nat) (l:List (List Int)):Bool:=l.all (eF v)
def VK (l:List (List Int)):Prop:=∀ c ∈ l,c.length<=12/\∀ x ∈ c,wL 12 x=true
theorem bw : ∀ {c:List Int} {n last:Int},wD n last c=0->last<n->(c.length:Int)+ last<n
 | [],n,last,_,h=>by simpa using h
 | x :: c,n,last,h,hl=>by
  unfold wD at h
  by_cases h1:wL n x=false
  ·rw [if_pos h1] at h; cases h
  ·rw [if_neg h1] at h
   by_cases h2:wU x<=last
   ·rw [if_pos h2] at h; cases h
   ·rw [if_neg h2] at h;have hv:=vM (show wL n x=true by simpa using h1);have:=bw h hv.2;rw [List.length_cons]; omega
theorem Wz {n:Int} {c:List Int} (hn:0<=n) (h:wD n (-1) c=0):(c.length:Int)<=n:=by have:=bw h (by omega); omega
theorem ti {n:Int} {l:List (List Int)} (h:vY n l=0):VK l:=by obtain⟨h1,h2,h3,h4⟩:=qZ h;intro c hc;have hz:=h4 c hc;have hl:=Wz h1 hz;exact⟨by omega,λx hx=>eP h2 ((wY.1 hz).1 x hx).1⟩
end Rs
open Rs
theorem RO {n:Nat} (h:n<=12):2 ^ n<=4096:=Nat.pow_le_pow_right (n:=2) (by omega) h
namespace Rs
end Rs
end Go.Pd

/- Part C1. -/
namespace Go.Pd
open Go Go.Proofs
namespace Rs
def Xy (K:List Int):Prop:=(∀ x ∈ K,wL 12 x=true)/\ K.Pairwise λa b=>wU a≠wU b
theorem ao {K:List Int} (h:Xy K):K.length<=12:=by
 have:=lG 12 (K.map λx=>(wU x).toNat) ?_ ?_
 ·simpa using this
 ·refine List.pairwise_map.2 (h.2.imp_of_mem λ{a b} ha hb zL e=>?_);have h1:=vM (h.1 a ha);have h2:=vM (h.1 b hb);omega
 ·intro x hx;simp only [ζ] at hx;obtain⟨y,hy,rfl⟩:=hx;have:=vM (h.1 y hy);omega
theorem oz {n:Int} {c:List Int} (hn:n<=12) (h:wD n (-1) c=0):Xy c:=⟨λx hx=>eP hn ((wY.1 h).1 x hx).1,(wY.1 h).2.imp λh=>by omega⟩
end Rs
open Rs
namespace Rs
end Rs
open Rs
open Rs
namespace Rs
end Rs
open Rs
namespace Rs
def kd (b:Bool) (K:List Int):D:=if b then .wZ 0 1 K.length else .xI
def ko (b:Bool) (K:List Int):List (Nat × Ob):=if b then [(0,⟨1,rows .i64 K⟩)] else []
end Rs
open Rs
open Rs
namespace Rs
end Rs
open Rs
end Go.Pd

/- Part C9. -/
namespace Go.Pd
open Go Go.Proofs
open BitVec renaming isValue -> ZA
open Rs
namespace Rs
def lU (x:Int) (c:List Int):List Int:=c.filter λy=>!decide (y=x)
theorem nh {x y:Int} {c:List Int}:lU x (c ++ [y])= lU x c++if y=x then [] else [y]:=by unfold lU;rw [List.filter_append,List.filter_cons,List.filter_nil];by_cases h:y=x <;> simp [h]
theorem cI (x:Int) (c:List Int):(lU x c).length<=c.length:=List.length_filter_le _ _
theorem pF {x y:Int} {c:List Int}:y ∈ lU x c ↔ y ∈ c/\y≠x:=by simp [lU]
def wG (a b:List Int) (v:Int):List Int:=lU (v+1) a++lU (-v-1) b
def zF (a b:List Int) (v:Int):List Int × Int:=if wD 12 (-1) a≠0\/wD 12 (-1) b≠0 then([],1) else if v<0\/12<=v\/v+1 ∉ a \/ -v-1 ∉ b then([],6) else if (wF (wG a b v)).2=true then([],10) else((wF (wG a b v)).1,0)
end Rs
theorem mj (a b:List Int) (v:Int):zX prog 34 [.sl 1 (rows .i64 a),.sl 1 (rows .i64 b),.int .i64 v] (.yD [.sl 1 (rows .i64 (zF a b v).1),.int .i64 (zF a b v).2]):=by
 refine yS func34 LO λhf=>?_;refine xB ?_;refine .go (xU.yU (vi a (by omega)) (by simp [D.xT,D.xO])) ?_;by_cases ha:wD 12 (-1) a=0
 case neg=>
  have e:(wD 12 (-1) a != 0)= true:=by simpa using ha
  refine yK e ?_;rw [show zF a b v=([],1) from if_pos (.inl ha)];exact .drop (by simp) (by simp [vw,sV,rows])
 have ea:(wD 12 (-1) a != 0)= false:=by simpa using ha
 refine yK ea ?_;refine .go (xU.yU (vi b (by omega)) (by simp [D.xT,D.xO])) ?_;by_cases hb:wD 12 (-1) b=0
 case neg=>
  have e:(wD 12 (-1) b != 0)= true:=by simpa using hb
  refine yK e ?_;rw [show zF a b v=([],1) from if_pos (.inr hb)];exact .drop (by simp) (by simp [vw,sV,rows])
 have eb:(wD 12 (-1) b != 0)= false:=by simpa using hb
 have e0:zF a b v=if v<0\/12<=v\/v+1 ∉ a \/ -v-1 ∉ b then([],6) else if (wF (wG a b v)).2=true then([],10) else((wF (wG a b v)).1,0):=if_neg (by omega);have hga:=oz (Int.le_refl 12) ha;have hgb:=oz (Int.le_refl 12) hb;have hla:=ao hga;have hlb:=ao hgb
 by_cases h1:v<0
 ·refine sC eb h1 ?_;rw [show zF a b v=([],6) by rw [e0,if_pos (.inl h1)]];exact .drop (by simp) (by simp [vw,sV,rows])
 by_cases h2:12<=v
 ·refine zl eb h1 h2 ?_;rw [show zF a b v=([],6) by rw [e0,if_pos (.inr (.inl h2))]];exact .drop (by simp) (by simp [vw,sV,rows])
 have e1:IntKind.i64.wrap (v+1)= v+1:=wrap_i64 (by omega);have e2:IntKind.i64.wrap (0-v)= -v:=Vz (by omega);have e3:IntKind.i64.wrap (-v-1)= -v-1:=wrap_i64 (by omega);refine se eb h1 h2 e1 ?_;refine .go (xU.yU (pQ a (v+1)) (by simp [D.xT,D.xO])) ?_;by_cases h3:v+1 ∈ a
 case neg=> simp only [simprocAttr,-ZA,↓zU,↓zD,zV,zT,zW,decide_eq_false h3];rw [show zF a b v=([],6) by rw [e0,if_pos (.inr (.inr (.inl h3)))]];exact .drop (by simp) (by simp [vw,sV,rows])
 simp only [simprocAttr,-ZA,↓zU,↓zD,zV,zT,zW,decide_eq_true h3,e2,e3];refine .go (xU.yU (pQ b (-v-1)) (by simp [D.xT,D.xO])) ?_;by_cases h4:-v-1 ∈ b
 case neg=> simp only [simprocAttr,-ZA,↓zU,↓zD,zV,zT,zW,decide_eq_false h4];rw [show zF a b v=([],6) by rw [e0,if_pos (.inr (.inr (.inr h4)))]];exact .drop (by simp) (by simp [vw,sV,rows])
 have e7:zF a b v=if (wF (wG a b v)).2=true then([],10) else((wF (wG a b v)).1,0):=by
  rw [e0,if_neg]
  rintro (h | h | h | h)
  ·exact h1 h
  ·exact h2 h
  ·exact h h3
  ·exact h h4
 rw [e7];simp only [simprocAttr,-ZA,↓zU,↓zD,zV,zT,zW,decide_eq_true h4]
 refine yM (λk:Nat=>[(47,.int .i64 k),(46,.int .i64 a.length),(45,.sl 1 (rows .i64 a)),(8,xJ 0 1 (rows .i64 (lU (v+1) (a.take k)))),(2,.int .i64 v),(1,.sl 1 (rows .i64 b))]) (λk=>⟨1,yX 0 1 (rows .i64 (lU (v+1) (a.take k)))⟩) (λk=>k<=a.length) (λk=>a.length-k) 0 (π _) ?_ ?_
 ·exact yJ.view (λk=>k) (by simp) (by simp) (by simp [aK,vw,Fr.get,lU,rows,xJ]) (by simp [stays,lU,rows,yX]) (by simp [wQ,lU,rows,yX])
 intro k hk;refine wH mixed ?_
 by_cases h:k<a.length
 ·have hd:((k:Int)<(a.length:Int)):=by omega
  have hs:=nh (x:=v+1) (y:=a.getD k 0) (c:=a.take k);rw [<- qY (d:=0) h] at hs;have hdl:=cI (v+1) (a.take k);rw [δ] at hdl
  by_cases hq:a.getD k 0=v+1
  ·rw [if_pos hq,ε] at hs;have hq1:(a.getD k 0 != v+1)= false:=by simpa using hq
   simp only [simprocAttr,-ZA,↓zU,↓zD,zV,zT,zW,hd,yL .i64 a h,e1,hq1]
   (repeat refine sd ?_)
   refine⟨k+1,by omega,?_,by omega⟩;rw [hs];exact jG
  ·rw [if_neg hq] at hs;have hq1:(a.getD k 0 != v+1)= true:=bne_iff_ne.2 hq;simp only [simprocAttr,-ZA,↓zU,↓zD,zV,zT,zW,hd,yL .i64 a h,e1,hq1]
   (repeat refine sd ?_)
   refine⟨k+1,by omega,?_,by omega⟩;rw [hs];exact PP [(0,1)] [0]
 have hd:¬ ((k:Int)<(a.length:Int)):=by omega
 rw [iN (show k=a.length by omega)];refine yK hd ?_
 refine qf (λk:Nat=>[(62,.int .i64 k),(61,.int .i64 b.length),(60,.sl 1 (rows .i64 b)),(8,xJ 0 1 (rows .i64 (lU (v+1) a++lU (-v-1) (b.take k)))),(2,.int .i64 v)]) (λk=>⟨1,yX 0 1 (rows .i64 (lU (v+1) a++lU (-v-1) (b.take k)))⟩) (λk=>k<=b.length) (λk=>b.length-k) 0 (π _) ?_ ?_
 ·rw [List.take_zero,show lU (-v-1) [] = [] from rfl,ε];exact lQ
 intro k hk;refine wH mixed ?_;have hda:=cI (v+1) a
 by_cases h:k<b.length
 ·have hd:((k:Int)<(b.length:Int)):=by omega
  have hs:=nh (x:=-v-1) (y:=b.getD k 0) (c:=b.take k);rw [<- qY (d:=0) h] at hs;have hdl:=cI (-v-1) (b.take k);rw [δ] at hdl
  by_cases hq:b.getD k 0 = -v-1
  ·rw [if_pos hq,ε] at hs;have hq1:(b.getD k 0 != -v-1)= false:=by simpa using hq
   simp only [simprocAttr,-ZA,↓zU,↓zD,zV,zT,zW,hd,yL .i64 b h,e2,e3,hq1]
   (repeat refine sd ?_)
   refine⟨k+1,by omega,?_,by omega⟩;rw [hs];exact jG
  ·rw [if_neg hq] at hs;have hq1:(b.getD k 0 != -v-1)= true:=bne_iff_ne.2 hq;simp only [simprocAttr,-ZA,↓zU,↓zD,zV,zT,zW,hd,yL .i64 b h,e2,e3,hq1,γ]
   (repeat refine sd ?_)
   refine⟨k+1,by omega,?_,by omega⟩;rw [hs,<- List.append_assoc];exact PP [(0,1)] [0]
 have hd:¬ ((k:Int)<(b.length:Int)):=by omega
 rw [iN (show k=b.length by omega)];refine yK hd ?_;have hr:lU (v+1) a++lU (-v-1) b=wG a b v:=rfl;rw [hr]
 have hrl:(wG a b v).length<=24:=by have:=cI (-v-1) b;rw [<- hr,γ]; omega
 have hro:(wG a b v).all (wL 12)= true:=ξ.2 λx hx=>by
  rcases List.mem_append.1 hx with hx | hx
  ·exact hga.1 x (pF.1 hx).1
  ·exact hgb.1 x (pF.1 hx).1
 have hna:zc (wG a b v)= ((wF (wG a b v)).1,(wF (wG a b v)).2,0):=by rw [zc,if_neg (by omega),if_neg (by rw [hro]; simp)]
 refine .go [(8,.sl 1 (rows .i64 (wG a b v)))] ⟨0,[]⟩ ?_ ?_
 ·exact yJ.view (λk=>k) (by simp) (by simp) ⟨Wf (by simp) (sX _ _),trivial⟩ (by simp [stays]) (by simp [wQ])
 refine xB ?_;refine .go (xU.yU (UK (wG a b v)) (by simp [D.xT,D.xO])) ?_;rw [hna]
 cases hcb:(wF (wG a b v)).2
 ·refine xB ?_;exact .same
 ·refine xB ?_;exact .drop (by simp) (by simp [vw,sV,rows])
open Rs
open Rs
namespace Rs
structure Ln where
 cl:List Int
 lf:Int
 rt:Int
 on:Int
def tV : Ln:=⟨[],0,0,0⟩
def rW (p:Ln):List D:=[.sl 1 (rows .i64 p.cl),.int .i64 p.lf,.int .i64 p.rt,.int .i64 p.on]
def mC (ls:List Ln):List (List D):=ls.map rW
theorem wJ (ls:List Ln):(mC ls).length=ls.length:=by simp [mC]
theorem mS (ls:List Ln) {i:Nat} (h:i<ls.length):(mC ls).getD i []=rW (ls.getD i tV):=by simp [mC,List.getD,h]
theorem Tv (ls:List Ln):∀ e ∈ mC ls,D.xT e=true:=by intro e he;simp only [mC,ζ] at he;obtain⟨p,_,rfl⟩:=he;simp [rW,D.xT,D.xO,rows]
def uU (k m:Int) (p:Ln):Bool:=if p.lf = -1 then decide (0<=p.rt)&& decide (p.rt<m)&& decide (p.on=0) else decide (0<=p.lf)&& decide (p.lf<k)&& decide (0<=p.rt)&& decide (p.rt<k)
end Rs
namespace Rs
def uE (l:List (List Int)) (ls:List Ln) (p:Ln):Bool:=if p.lf = -1 then decide (p.cl=l.getD p.rt.toNat []) else decide ((zF (ls.getD p.lf.toNat tV).cl (ls.getD p.rt.toNat tV).cl p.on).2=0)&& decide (p.cl=(zF (ls.getD p.lf.toNat tV).cl (ls.getD p.rt.toNat tV).cl p.on).1)
theorem nr {k m:Int} {p:Ln} (h:uU k m p=true) (h1:p.lf = -1):0<=p.rt/\p.rt<m:=by simp only [uU,h1,if_true,Bool.and_eq_true,decide_eq_true_eq] at h;exact⟨h.1.1,h.1.2⟩
theorem aQ {k m:Int} {p:Ln} (h:uU k m p=true) (h1:p.lf ≠ -1):(0<=p.lf/\p.lf<k)/\ 0<=p.rt/\p.rt<k:=by simp only [uU,if_neg h1,Bool.and_eq_true,decide_eq_true_eq] at h;exact⟨⟨h.1.1.1,h.1.1.2⟩,h.1.2,h.2⟩
end Rs
end Go.Pd
