/- Part X7. -/
import Derived.Test.YtccobgpcnfjbhaaZcX6
import Derived.Shelf.SlSortCmp.NoneTotal
import Derived.Test.YtccobgpcnfjbhaaZcSQ
set_option linter.unusedSectionVars false
set_option linter.unusedVariables false
set_option linter.unusedSimpArgs false
set_option linter.defProp false
open Go.Proofs.Try
open List renaming length_append->γ,take_length->δ,length_take->ε,length_set->ζ,map_congr_left->η,length_pos_iff->θ,pairwise_iff_getElem->μ,mem_map->ν,map_map->ξ,drop_eq_nil_of_le->ο,map_id->π,take_set_of_le->τ,getElem?_set->υ,filter_cons->χ
open Nat renaming le_refl->ψ,lt_of_lt_of_le->ω,lt_succ_self->Aa,mul_one->Ab,zero_le->Ac
open Array renaming getElem?_append_left->Ad,getElem?_eq_some_iff->Ae,getElem?_modify->Af,ext_getElem?->Ag
open Int renaming toNat_natCast->Ah
namespace Go.Pd
open Go Go.Proofs Go.Shelf Go.Sort
variable [vZ]
def wT (M:Nat->Prop) (w:World) (C:D->Prop):Type:={ p:Value × D // RP M w p.1 p.2/\p.1.oneCell'=true/\C p.2 }
theorem iF {α:Type} [Inhabited α] (enc:α->Value) (w:World) (blk off m:Nat) (d:Array α) (os:Array Obj) {b:Nat} (hb:b<w.heap.size) (hn:b≠blk):(sortWorld enc w blk off m d os).heap[b]?=w.heap[b]?:=by show (((Sort.ahead w m).heap.modify blk (onCells (putCells enc off d)))++ os)[b]?=_;rw [Ad (by simpa using hb),Af,if_neg (λe=>hn e.symm)];rfl
theorem eA {α:Type} [Inhabited α] (enc:α->Value) (w:World) (blk off m:Nat) (d:Array α) (os:Array Obj):w.heap.size<=(sortWorld enc w blk off m d os).heap.size:=by show w.heap.size<=(((Sort.ahead w m).heap.modify blk (onCells (putCells enc off d)))++ os).size;simp [Sort.ahead]
theorem xm {α:Type} [Inhabited α] (enc:α->Value) (w:World) (blk off m:Nat) (d:Array α) (os:Array Obj) {cur:Array Value} {e:TypeId} {fr:Nat × Nat} (hc:w.heap[blk]?=some (Obj.cells cur e fr)) :
  sortWorld enc w blk off m d os=grow ((w.setRow blk (putCells enc off d cur)).drewN m) os:=by
 unfold sortWorld;congr 1;unfold putRow mapBlock Sort.ahead World.drewN World.setRow;congr 1;apply Ag;intro k;simp only [Af]
 by_cases hk:blk=k
 ·subst hk;simp only [if_true,hc,Option.map_some,onCells]
 ·simp [hk]
theorem rq {w w':World} (h:Kept w w' λ_=>False):∃ q os,w'=grow (w.drewN q) os:=by
 refine⟨w'.drawn-w.drawn,w'.heap.extract w.heap.size w'.heap.size,?_⟩;have hd:=h.drawn;have hs:=h.size;obtain⟨heap,tape,drawn,os,output⟩:=w;obtain⟨heap',tape',drawn',os',output'⟩:=w';have h1:=h.os;have h2:=h.tape;have h3:=h.output;have h4:=h.block;simp only at h1 h2 h3 h4 hd hs;subst h1; subst h2; subst h3;unfold grow World.drewN;simp only [World.mk.injEq,and_true,true_and];refine⟨?_,by omega⟩;apply Ag;intro i
 by_cases hi:i<heap.size
 ·rw [Ad hi,h4 i hi id]
 ·rw [Array.getElem?_append_right (by omega),Array.getElem?_extract]
  by_cases h2:i<heap'.size
  ·rw [if_pos (by omega)];congr 1; omega
  ·rw [if_neg (by omega)];exact Array.getElem?_eq_none (by omega)
theorem km {w:World} (q:Nat) (os:Array Obj):Kept w (grow (w.drewN q) os) λ_=>False:=by
 refine⟨rfl,rfl,rfl,by simp [World.drewN],λb hb _=>?_,λb cur e h=>⟨cur,?_,rfl⟩,by show w.drawn<=w.drawn+q; omega⟩
 ·show (w.heap++os)[b]?=_;rw [Ad hb]
 ·have hb:b<w.heap.size:=(Ae.1 h).1;show (w.heap++os)[b]?=_;rw [Ad hb];exact h
def hd (e:List D):D:=e.getD 0 .top
def ov (cf:D->D->Int) (xX:List (List D)):Prop:=∀ i j,i<j->j<xX.length->¬ cf (hd (xX.getD j [])) (hd (xX.getD i []))<0
def wT.enc {M:Nat->Prop} {w:World} {C:D->Prop} (a:wT M w C):Value:=a.1.1
def wT.aW {M:Nat->Prop} {w:World} {C:D->Prop} (a:wT M w C):D:=a.1.2
def wT.cf {M:Nat->Prop} {w:World} {C:D->Prop} (cf:D->D->Int) (a b:wT M w C):Int:=cf a.aW b.aW
theorem qq {α:Type} [Inhabited α] {n:Nat} {p:Nat->α->Prop} (h:∀ i,i<n->∃ a,p i a):∃ d:Array α,d.size=n/\∀ i,i<n->p i d[i]!:=by obtain⟨f,hf⟩:=Deep.choose_lt h;refine⟨((List.range n).map f).toArray,by simp,λi hi=>?_⟩;rw [getElem!_pos _ i (by simpa using hi)];simpa using hf i hi
theorem iT {α:Type} (a:Array α):a.extract 0 a.size=a:=by simp
theorem nf {P:Program} {g:FuncId} {C:D->Prop} {cf:D->D->Int} (hcmp:∀ x y,C x->C y->yA P g [x,y] (.int .i64 (cf x y))) {M0:Nat->Prop} {w:World} {σ:St} {ι:Nat->Nat} (hS:yG M0 w σ ι) {key:Nat} {ob:Ob} (hget:σ.get key=some ob) (size:Nat) [Inhabited (wT (yT M0 ι σ) w C)] :
  CmpLays1 P g #[] (wT.enc (M:=yT M0 ι σ) (w:=w) (C:=C)) (wT.cf cf) (ι key) 0 size w:=by
 intro m os dk hdk x y;have hne:∀ b,¬ yT M0 ι σ b->b≠ι key:=λb hb e=>hb (.inr ⟨key,ob,hget,e.symm⟩)
 have hM:∀ b,yT (yT M0 ι σ) ι mR b->yT M0 ι σ b:=by
  rintro b (h | ⟨k,o,hk,_⟩)
  ·exact h
  ·cases hk
 have hsz:=eA wT.enc w (ι key) 0 m dk os;have hblock:∀ b,b<w.heap.size->¬ yT M0 ι σ b->(sortWorld wT.enc w (ι key) 0 m dk os).heap[b]?=w.heap[b]?:=λb hb hn=>iF wT.enc w (ι key) 0 m dk os hb (hne b hn)
 have S1:yG (yT M0 ι σ) (sortWorld wT.enc w (ι key) 0 m dk os) mR ι:=⟨λb hb=>ω (yT.lt hS hb) hsz,(λk o hk=>by cases hk),(λk k' o o' hk=>by cases hk),(λk o hk=>by cases hk),hS.rZ.yR hsz hblock λb _ hb=>hM b hb⟩
 have yR:∀ z:wT (yT M0 ι σ) w C,RP (yT (yT M0 ι σ) ι mR) (sortWorld wT.enc w (ι key) 0 m dk os) z.enc z.aW:=λz=>z.2.1.yR hblock λb _ hb=>hM b hb
 refine((hcmp x.aW y.aW x.2.2.2 y.2.2.2).run _ _ ι (#[x.enc,y.enc] ++ #[]) S1 rfl λj hj=>?_).mono λe w' hh=>?_
 ·match j,hj with
  | 0,_=>exact .pure (yR x)
  | 1,_=>exact .pure (yR y)
 ·obtain⟨v,ι',rfl,k1,k2,k3,k4,k5,k6⟩:=hh;have K0:Kept (sortWorld wT.enc w (ι key) 0 m dk os) w' λ_=>False:=k1.mono λb _ ⟨k,o,hk,_⟩=>by cases hk
  refine⟨?_,rq K0⟩;rw [k6.yS.1];rfl
set_option maxHeartbeats 1000000 in
theorem de {P:Program} {ρ:Ren} (L:SlLaysF.n6 P ρ) (hord:rX P (ρ.f 6)) {g:FuncId} {C:D->Prop} {cf:D->D->Int}
  (hg:rX P g) (hcmp:∀ x y,C x->C y->yA P g [x,y] (.int .i64 (cf x y)))
  (hirr:∀ x,C x->¬ cf x x<0) (htr:∀ x y z,C x->C y->C z->cf x y<0->cf y z<0->cf x z<0) (hntr:∀ x y z,C x->C y->C z->¬ cf x y<0->¬ cf y z<0->¬ cf x z<0)
  {σ:St} {key:Nat} {xX target:List (List D)} (hget:σ.get key=some ⟨1,xX⟩) (hels:∀ e ∈ xX,∃ d:D,e = [d]/\d.xJ=true/\C d) (hlen:xX.length<4611686018427387904) (hne:xX ≠ [])
  (hT:∀ els',els'.Perm xX->ov cf els'->els'=target) :
  xS P (ρ.f 6) [.yW key 1 xX.length,.fn g []] σ (.yE []) (σ.set key ⟨1,target⟩):=by
 refine⟨hord,λM0 w ι vals hS hl hv=>?_⟩;have h0:=hv 0 (by simp);have h1:=hv 1 (by simp);simp only [List.getD_cons_zero,List.getD_cons_succ] at h0 h1;obtain⟨cap,cur0,e0,e1,kk,a1,a2,a3,a4⟩:=h0.uZ;obtain⟨cb,f1,f2,f3⟩:=h1.nV;have hcb:cb = #[]:=Array.eq_empty_of_size_eq_zero (by simpa using f2);subst hcb
 have hvals:vals = #[.slice (some ⟨ι key,0,none⟩) xX.length cap,.func (.func g) #[] #[]]:=by
  obtain⟨l⟩:=vals
  match l,hl with
  | [x,y],_=> simp at e1 f1;rw [e1,f1]
 subst hvals;clear h0 h1 hv e1 f1 f2 f3 hl;have hk:=(hS.holds key _ hget).1;obtain⟨cur,e,c1,c2,c3,c4⟩:=xB.cells (hS.holds key _ hget).2 (Aa 0);simp only [Ab] at c3
 have cell:∀ i,i<xX.length->∃ a:wT (yT M0 ι σ) w C,a.enc=cur.getD i undef/\xX.getD i [] = [a.aW]:=by
  intro i hi;have hm:xX.getD i [] ∈ xX:=by simp [List.getD,hi]
  obtain⟨d,hd,hp,hc⟩:=hels _ hm;have h:=c4 i hi 0 (Aa 0);simp only [Ab,Nat.add_zero] at h;rw [hd] at h;exact⟨⟨(cur.getD i undef,d),h.2.iN hp,h.1,hc⟩,rfl,hd⟩
 have hpos:0<xX.length:=θ.2 hne;obtain⟨a0,_⟩:=cell 0 hpos
 haveI:Inhabited (wT (yT M0 ι σ) w C):=⟨a0⟩
 obtain⟨d,hds,hdi⟩:=qq cell
 have hO:SWO (ltOf (wT.cf (M:=yT M0 ι σ) (w:=w) (C:=C) cf)):=by
  exact⟨λx=>decide_eq_false (hirr x.aW x.2.2.2),λx y z h1 h2=>decide_eq_true (htr x.aW y.aW z.aW x.2.2.2 y.2.2.2 z.2.2.2 (of_decide_eq_true h1) (of_decide_eq_true h2)),
   λx y z h1 h2=>decide_eq_false (hntr x.aW y.aW z.aW x.2.2.2 y.2.2.2 z.2.2.2 (of_decide_eq_false h1) (of_decide_eq_false h2))⟩
 have hH:Holds wT.enc w (ι key) 0 d:=by
  intro j hj;have hj':j<xX.length:=by omega
  have hjc:j<cur.size:=by omega
  refine⟨?_,?_⟩
  ·rw [(hdi j hj').1];simp [World.cell?,c1,Array.getD,hjc]
  ·simp [World.frozen?,c1]
 have hcall:=Any.slices_SortFunc L (wT.enc (M:=yT M0 ι σ) (w:=w) (C:=C)) (λx=>x.2.2.1) (wT.cf cf) hO g #[] (ι key) 0 cap d w (λargs w=>rK hg args w) (nf hcmp hS hget d.size) hH (Ae.1 c1).1 (by omega);rw [hds] at hcall;refine hcall.mono λe' w' hh=>?_;obtain⟨rfl,d',n,os,hp,hs,rfl⟩:=hh;rw [<- hds] at hp hs;have hsz:d'.size=d.size:=hp.1
 have e1:d.toList.map (λa=>[a.aW])= xX:=by refine List.ext_getElem (by simpa using hds) λi h1 h2=>?_;have:=(hdi i h2).2;rw [getElem!_pos d i (by omega)] at this;simp only [List.getElem_map,Array.getElem_toList];simp only [List.getD,List.getElem?_eq_getElem h2,Option.getD_some] at this;exact this.symm
 have hperm:(d'.toList.map λa=>[a.aW]).Perm xX:=by
  rw [<- e1];have:=hp.2.2;rw [<- hsz] at this;conv at this=>lhs; rw [iT d']
  rw [hsz,iT d] at this;exact this.map _
 have hgd:∀ i,i<d'.size->hd ((d'.toList.map λa=>[a.aW]).getD i [])= (d'[i]!).aW:=by intro i hi;rw [getElem!_pos d' i hi];simp [hd,List.getD,hi]
 have hsort:ov cf (d'.toList.map λa=>[a.aW]):=by
  intro i j hij hj;have hj':j<d'.size:=by simpa using hj
  rw [hgd j hj',hgd i (by omega)];have:=hs i j (Ac _) hij (by omega);exact of_decide_eq_false this
 have htarget:=hT _ hperm hsort;have htl:target.length=xX.length:=by rw [<- htarget]; exact hperm.length_eq
 rw [xm _ _ _ _ _ _ _ c1];have hcs:(putCells wT.enc 0 d' cur).size=cur.size:=by simp [putCells]
 obtain⟨S2,K2⟩:=hS.set (ob':=⟨1,target⟩) hget c1 hcs (Aa 0) (by simp only [Ab]; omega) ⟨λel he=>by
   rw [<- htarget] at he;simp only [ν] at he;obtain⟨a,_,rfl⟩:=he;rfl,λi hi j hj=>by
   have hj0:j=0:=by simp only at hj; omega
   subst hj0;simp only [Ab,Nat.add_zero];have hi':i<d'.size:=by simp only at hi; omega
   have hic:i<cur.size:=by omega
   have ev:(putCells wT.enc 0 d' cur).getD i undef=(d'[i]!).enc:=by simp [putCells,Array.getD,hic,hi']
   have ed:(target.getD i []).getD 0 .top=(d'[i]!).aW:=by rw [<- htarget]; exact hgd i hi'
   rw [ev,ed];exact⟨(d'[i]!).2.2.1,.pure (d'[i]!).2.1⟩⟩
 have K3:=km (w:=w.setRow (ι key) (putCells wT.enc 0 d' cur)) n os;refine⟨.tuple #[],ι,rfl,K2.trans K3 (λ_ _ h=>h) (λ_ _ h=>h.elim),S2.ext K3,ψ _,λ_ _=>rfl,λk o hk=>?_,.yE rfl (λj hj=>by simp at hj)⟩
 by_cases ek:k=key
 ·subst ek; exact .inr ⟨k,_,hget,rfl⟩
 ·refine .inr ⟨k,o,?_,rfl⟩;rw [wC,if_neg (λe=>ek e.symm)] at hk;exact hk
end Go.Pd

/- Part SD. -/
set_option maxRecDepth 100000
namespace Go.Pd
open Go Go.Proofs Go.Shelf Go.Sort
open Ru
def zn : Go.Shelf.Ren where
 f:=λx=>match x with | 6=>103 | 15=>134 | 14=>133 | 28=>151 | 29=>152 | 20=>143 | 21=>144 | 22=>145 | 23=>146 | 24=>147 | 25=>148 | 26=>149 | 27=>150 | 46=>155 | 47=>156 | 48=>157 | 49=>158 | 50=>159 | 57=>160 | n=>n
 t:=λx=>match x with | 22=>61 | 24=>60 | 25=>145 | 39=>172 | 53=>184 | 55=>99 | 46=>178 | 45=>177 | 50=>147 | 66=>187 | 70=>191 | 76=>193 | 77=>41 | n=>n
 g:=λx=>x
theorem kn : SlLaysF.n6 prog zn where
 mixed:=by kernel_rfl
 f6:=⟨ "slices.SortFunc[[][]int,[]int]",by decide,func103.trans (congrArg some (by kernel_rfl))⟩
 f14:=⟨ "slices.pdqsortCmpFunc[[]int]",by decide,func133.trans (congrArg some (by kernel_rfl))⟩
 f15:=func134.trans (congrArg some (by kernel_rfl))
 f20:=⟨ "slices.insertionSortCmpFunc[[]int]",by decide,func143.trans (congrArg some (by kernel_rfl))⟩
 f21:=⟨ "slices.heapSortCmpFunc[[]int]",by decide,func144.trans (congrArg some (by kernel_rfl))⟩
 f22:=⟨ "slices.breakPatternsCmpFunc[[]int]",by decide,func145.trans (congrArg some (by kernel_rfl))⟩
 f23:=⟨ "slices.choosePivotCmpFunc[[]int]",by decide,func146.trans (congrArg some (by kernel_rfl))⟩
 f24:=⟨ "slices.reverseRangeCmpFunc[[]int]",by decide,func147.trans (congrArg some (by kernel_rfl))⟩
 f25:=⟨ "slices.partialInsertionSortCmpFunc[[]int]",by decide,func148.trans (congrArg some (by kernel_rfl))⟩
 f26:=⟨ "slices.partitionEqualCmpFunc[[]int]",by decide,func149.trans (congrArg some (by kernel_rfl))⟩
 f27:=⟨ "slices.partitionCmpFunc[[]int]",by decide,func150.trans (congrArg some (by kernel_rfl))⟩
 f28:=func151.trans (congrArg some (by kernel_rfl))
 f29:=func152.trans (congrArg some (by kernel_rfl))
 f46:=⟨ "slices.siftDownCmpFunc[[]int]",by decide,func155.trans (congrArg some (by kernel_rfl))⟩
 f47:=func156.trans (congrArg some (by kernel_rfl))
 f48:=func157.trans (congrArg some (by kernel_rfl))
 f49:=⟨ "slices.medianAdjacentCmpFunc[[]int]",by decide,func158.trans (congrArg some (by kernel_rfl))⟩
 f50:=⟨ "slices.medianCmpFunc[[]int]",by decide,func159.trans (congrArg some (by kernel_rfl))⟩
 f57:=⟨ "slices.order2CmpFunc[[]int]",by decide,func160.trans (congrArg some (by kernel_rfl))⟩
 t0:=Try.underlying0
 a0:=Try.isAgg0
 z0:=Try.sizeOf0
 v0:=Try.zeroValue0
 t3:=Try.underlying3
 a3:=Try.isAgg3
 z3:=Try.sizeOf3
 v3:=Try.zeroValue3
 t4:=Try.underlying4
 a4:=Try.isAgg4
 z4:=Try.sizeOf4
 v4:=Try.zeroValue4
 t5:=Try.underlying5
 a5:=Try.isAgg5
 z5:=Try.sizeOf5
 v5:=Try.zeroValue5
 t9:=Try.underlying9
 a9:=Try.isAgg9
 z9:=Try.sizeOf9
 v9:=Try.zeroValue9
 t22:=Try.underlying61
 a22:=Try.isAgg61
 z22:=Try.sizeOf61
 v22:=Try.zeroValue61
 a24:=Try.isAgg60
 z24:=Try.sizeOf60
 t25:=Try.underlying145
 a25:=Try.isAgg145
 z25:=Try.sizeOf145
 v25:=Try.zeroValue145
 t39:=Try.underlying172
 a39:=Try.isAgg172
 z39:=Try.sizeOf172
 v39:=Try.zeroValue172
 t45:=Try.underlying177
 a45:=Try.isAgg177
 z45:=Try.sizeOf177
 v45:=Try.zeroValue177
 t46:=Try.underlying178
 a46:=Try.isAgg178
 z46:=Try.sizeOf178
 v46:=Try.zeroValue178
 t50:=Try.underlying147
 a50:=Try.isAgg147
 z50:=Try.sizeOf147
 v50:=Try.zeroValue147
 t53:=Try.underlying184
 a53:=Try.isAgg184
 z53:=Try.sizeOf184
 v53:=Try.zeroValue184
 t55:=Try.underlying99
 a55:=Try.isAgg99
 z55:=Try.sizeOf99
 v55:=Try.zeroValue99
 t66:=Try.underlying187
 a66:=Try.isAgg187
 z66:=Try.sizeOf187
 v66:=Try.zeroValue187
 t70:=Try.underlying191
 a70:=Try.isAgg191
 z70:=Try.sizeOf191
 v70:=Try.zeroValue191
 t76:=Try.underlying193
 a76:=Try.isAgg193
 z76:=Try.sizeOf193
 v76:=Try.zeroValue193
 t77:=Try.underlying41
 a77:=Try.isAgg41
 z77:=Try.sizeOf41
 v77:=Try.zeroValue41
def W4 : D->Int
 | .int _ n=>n
 | _=>0
theorem cp (l:List Int):(rows .i64 l).map (λe=>W4 (hd e))= l:=by
 unfold rows;rw [ξ];conv=>rhs; rw [<- π l]
 exact η λx _=>rfl
theorem pD {k:Nat} {o:Ob}:∀ {r:List (Nat × Ob)},St.look r k=some o->zJ r k o=r
 | [],h=>by cases h
 | (j,o') :: r,h=>by
  rw [yZ] at h;rw [sP]
  by_cases e:j=k
  ·rw [if_pos e] at h ⊢;injection h with h; rw [h]
  ·rw [if_neg e] at h ⊢;rw [pD h]
def od (l:List (List Int)):Prop:=l.Pairwise λa b=>¬ kc b a<0
def tH (l:List (List Int)):List (List Int):=l.mergeSort λa b=>decide (¬ kc b a<0)
theorem jJ (l:List (List Int)):(tH l).Perm l:=List.mergeSort_perm l _
theorem vn (a b:List Int):¬ kc b a<0\/¬ kc a b<0:=by have:=oV a b; omega
theorem eW (l:List (List Int)):od (tH l):=by have:=List.pairwise_mergeSort (le:=λa b:List Int=>decide (¬ kc b a<0)) (λa b c h1 h2=>by simp only [decide_eq_true_eq] at h1 h2 ⊢; exact jN h2 h1) (λa b=>by simp only [Bool.or_eq_true,decide_eq_true_eq]; exact vn a b) l;unfold od tH;exact this.imp λh=>by simpa using h
theorem xy {a b:List Int} (h1:¬ kc b a<0) (h2:¬ kc a b<0):a=b:=gX (by have:=oV a b; omega)
theorem YA {l m:List (List Int)} (hp:m.Perm l) (hm:od m):m=tH l:= List.Perm.eq_of_pairwise (le:=λa b=>¬ kc b a<0) (λx y _ _ h1 h2=>xy h1 h2) hm (eW l) (hp.trans (jJ l).symm)
def mN : D->List Int
 | .sl _ xX=>xX.map λe=>W4 (hd e)
 | _=>[]
theorem nR (l:List Int):mN (.sl 1 (rows .i64 l))= l:=cp l
theorem Yr {l:List (List Int)} {xX:List (List D)} (h:xX.Perm (rl l)):∃ m:List (List Int),xX=rl m/\m.Perm l:=by
 refine⟨xX.map λe=>mN (hd e),?_,?_⟩
 ·unfold rl;rw [ξ];conv=>lhs; rw [<- π xX]
  refine η λe he=>?_;have:=h.mem_iff.1 he;simp only [rl,ν] at this;obtain⟨n,_,rfl⟩:=this;show [D.sl 1 (rows .i64 n)] = [D.sl 1 (rows .i64 (mN (.sl 1 (rows .i64 n))))];rw [nR]
 ·have:=h.map λe=>mN (hd e)
  have e:(rl l).map (λe=>mN (hd e))= l:=by
   unfold rl;rw [ξ];conv=>rhs; rw [<- π l]
   exact η λx _=>nR x
  rw [e] at this;exact this
theorem Zs {l:List (List Int)} {i:Nat} (h:i<l.length):mN (hd ((rl l).getD i []))= l.getD i []:=by rw [wG _ h]; exact nR _
theorem Wg {o:List (List Int)} (h:∀ a b,a<b->b<o.length->¬ kc (o.getD b []) (o.getD a [])<0):od o:=by unfold od;rw [μ];intro i j hi hj hij;have:=h i j hij hj;simpa [List.getD,hi,hj] using this
theorem tl {σ:St} {key:Nat} {l:List (List Int)} (hget:σ.get key=some ⟨1,rl l⟩) (hne:l ≠ []) (hlen:l.length<=1000) :
  xS prog 103 [.yW key 1 l.length,.fn 104 []] σ (.yE []) (σ.set key ⟨1,rl (tH l)⟩):=by
 have ho:rX prog 103:=⟨_,func103,by kernel_rfl,by kernel_rfl⟩;have ho2:rX prog 104:=⟨_,func104,by kernel_rfl,by kernel_rfl⟩
 have h:=de (P:=prog) (ρ:=zn) kn ho (g:=104) (C:=λd=>∃ l:List Int,d = .sl 1 (rows .i64 l)) (cf:=λx y=>kc (mN x) (mN y)) ho2
  (by rintro x y ⟨a,rfl⟩ ⟨b,rfl⟩; rw [nR,nR]; exact jK a b) (by intro x _; rw [gY]; omega) (by intro x y z _ _ _ h1 h2; exact wv h1 h2) (by intro x y z _ _ _ h1 h2; exact jN h1 h2)
  hget (target:=rl (tH l)) (by
   intro e he;have hp:=lC l e he;simp only [rl,ν] at he;obtain⟨n,hn,rfl⟩:=he;exact⟨_,rfl,by simpa [D.xT] using hp,n,rfl⟩) (by rw [xP]; omega) (by intro c; apply hne; simpa [rl] using c) (by
   intro els' hp hs;obtain⟨m,rfl,hm⟩:=Yr hp;rw [YA hm (Wg λa b hab hb=>?_)];have:=hs a b hab (by rw [xP]; exact hb);change ¬ kc (mN _) (mN _)<0 at this;rw [Zs hb,Zs (show a<m.length by omega)] at this;exact this)
 rw [xP] at h;exact h
end Go.Pd

/- Part SE. -/
set_option maxRecDepth 20000
set_option maxHeartbeats 1000000
namespace Go.Pd
open Go Go.Proofs
open BitVec renaming isValue -> ZA
open Ru
def below (m:List (List Int)) (x:List Int):Nat:=(m.filter λy=>decide (kc y x<0)).length
theorem eZ {x:List Int}:∀ {m:List (List Int)} {i:Nat},i<=m.length->(∀ a,a<i->kc (m.getD a []) x<0)->(∀ a,i<=a->a<m.length->¬ kc (m.getD a []) x<0)->below m x=i
 | [],i,h,_,_=>by simp at h; simp [below,h]
 | y :: m,0,_,_,h2=>by have h0:=h2 0 (ψ _) (by simp);have ih:=eZ (x:=x) (m:=m) (i:=0) (Ac _) (λa ha=>by omega) (λa _ ha=>by simpa using h2 (a+1) (by omega) (by simp; omega));unfold below at ih ⊢;rw [χ,if_neg (by simpa using h0),ih]
 | y :: m,i+1,hi,h1,h2=>by have h0:=h1 0 (by omega);have ih:=eZ (x:=x) (m:=m) (i:=i) (by simpa using hi) (λa ha=>by simpa using h1 (a+1) (by omega)) (λa ha hb=>by simpa using h2 (a+1) (by omega) (by simp; omega));unfold below at ih ⊢;rw [χ,if_pos (by simpa using h0),List.length_cons,ih]
theorem cz {n:Nat} (h:n<=1000000):ur .u64 (n:Int) (ui 1#64)= ((n / 2:Nat):Int):=by unfold ur;have e:min (ui 1#64).toNat IntKind.u64.bits=1:=rfl;rw [e];show ((n:Int)).fdiv 2=_;rw [Int.fdiv_eq_ediv_of_nonneg _ (by decide)];omega
theorem fc {m:List (List Int)} {x:List Int} (hm:od m) {a b:Nat} (hab:a<=b) (hb:b<m.length) (h:kc (m.getD b []) x<0):kc (m.getD a []) x<0:=by
 by_cases e:a=b
 ·rw [e]; exact h
 ·have hp:=μ.1 hm a b (by omega) hb (by omega);have e1:m.getD a []=m[a]'(by omega):=by simp [List.getD,show a<m.length by omega]
  have e2:m.getD b []=m[b]:=by simp [List.getD,hb]
  rw [e1]; rw [e2] at h
  by_cases c:kc (m[a]'(by omega)) x<0
  ·exact c
  ·exact absurd h (jN hp c)
def wJ (l:List (List Int)):Nat->List (List Int)
 | 0=>[]
 | k+1=>if 0<k/\l.getD k []=l.getD (k-1) [] then wJ l k else wJ l k ++ [l.getD k []]
def dedup (l:List (List Int)):List (List Int):=wJ l l.length
theorem mV {l:List (List Int)}:∀ {k:Nat},k<=l.length->(∀ i,0<i->i<k->l.getD i []≠l.getD (i-1) [])->wJ l k=l.take k
 | 0,_,_=>by simp [wJ]
 | k+1,h,hn=>by rw [wJ,if_neg (λc=>hn k c.1 (by omega) c.2),mV (by omega) (λi h1 h2=>hn i h1 (by omega)),<- yD (by omega)]
theorem pa (l:List (List Int)):∀ k,(wJ l k).length<=k
 | 0=>ψ _
 | k+1=>by
  have:=pa l k;rw [wJ]
  split
  ·omega
  ·rw [γ]; simp; omega
theorem jz (l:List (List Int)) (k:Nat):(wJ l k).length<=(wJ l (k+1)).length:=by
 rw [wJ]; split
 ·exact ψ _
 ·rw [γ]; omega
theorem Z0 (l:List (List Int)) (i:Nat) (x:List Int):(rl l).set i [.sl 1 (rows .i64 x)]=rl (l.set i x):=by simp [rl,List.map_set]
theorem bG (o:List (List Int)) (i j:Nat) (x:List Int):(o.set i x).getD j []=if i=j/\j<o.length then x else o.getD j []:=by
 simp only [List.getD,υ]
 split
 ·rename_i h; subst h; by_cases hj:i<o.length
  ·simp [hj]
  ·simp [hj]
 ·rename_i h; simp [h]
theorem wi (l:List (List Int)):∀ k,0<(wJ l (k+1)).length
 | 0=>by rw [wJ,if_neg (by omega),γ]; simp
 | k+1=>ω (wi l k) (jz l (k+1))
theorem uN {k:Nat} {o o':Ob}:∀ {r:List (Nat × Ob)},St.look r k=some o->St.look (zJ r k o') k=some o'
 | [],h=>by cases h
 | (j,ob) :: r,h=>by
  rw [yZ] at h;rw [sP]
  by_cases e:j=k
  ·rw [if_pos e,yZ,if_pos e]
  ·rw [if_neg e] at h;rw [if_neg e,yZ,if_neg e,uN h]
theorem pF (k:Nat) (a b:Ob):∀ r:List (Nat × Ob),zJ (zJ r k a) k b=zJ r k b
 | []=>rfl
 | (j,ob) :: r=>by
  rw [sP,sP]
  by_cases e:j=k
  ·rw [if_pos e,if_pos e,sP,if_pos e]
  ·rw [if_neg e,if_neg e,sP,if_neg e,pF k a b r]
def p8 (l:List (List Int)):List (List D):=rl (dedup l)++ List.replicate (l.length-(dedup l).length) [.xZ]
theorem ju {σ:St} {key:Nat} {l:List (List Int)} (hget:σ.get key=some ⟨1,rl l⟩) (hlen:l.length<=1000) (hne:l ≠ []) :
  xS prog 105 [.yW key 1 l.length,.fn 106 []] σ (.yW key 1 (dedup l).length) (σ.set key ⟨1,p8 l⟩):=by
 obtain⟨nx,xW⟩:=σ;have hpos:0<l.length:=θ.2 hne;have hg:St.look xW key=some ⟨1,rl l⟩:=hget
 have whole:dedup l=l->(.yW key 1 (dedup l).length=D.yW key 1 l.length/\(⟨nx,zJ xW key ⟨1,p8 l⟩⟩:St)= ⟨nx,xW⟩):=by
  intro e;refine⟨by rw [e],?_⟩;have:p8 l=rl l:=by unfold p8; rw [e]; simp
  rw [this,pD hg]
 refine zL func105 W7 λhf=>?_
 by_cases h2:l.length<2
 ·have hd:(l.length:Int)<2:=by omega
  refine vY hd ?_
  have e:dedup l=l:=by unfold dedup;rw [mV (ψ _) (λi h1 h3=>by omega),δ]
  obtain⟨e1,e2⟩:=whole e;exact .inl ⟨e1,e2⟩
 have hd:¬ (l.length:Int)<2:=by omega
 refine vY hd ?_
 refine xO (λk:Nat=>[(5,.int .i64 k),(1,.fn 106 []),(0,.yW key 1 l.length)]) (λ_=>⟨nx,xW⟩) (λk=>1<=k/\k<=l.length/\∀ i,0<i->i<k->l.getD i []≠l.getD (i-1) []) (λk=>l.length-k) 1 ⟨ψ _,by omega,λi h1 h2=>by omega⟩ ?_ ?_
 ·exact wI
 intro i0 ⟨hi1,hi2,hi3⟩;refine xE mixed ?_;by_cases h:i0<l.length
 case neg=>
  have hd:¬ ((i0:Int)<(l.length:Int)):=by omega
  have e:dedup l=l:=by unfold dedup;rw [mV (ψ _) (λi h1 h3=>hi3 i h1 (by omega)),δ]
  obtain⟨e1,e2⟩:=whole e;refine vY hd ?_;exact .inl ⟨e1,e2⟩
 have hd:((i0:Int)<(l.length:Int)):=by omega
 have em:IntKind.i64.wrap ((i0:Int)-1)= ((i0-1:Nat):Int):=by rw [wrap_i64 (by omega)]; omega
 simp only [simprocAttr,-ZA,↓zU,↓zD,zV,zT,zW,hd,hg,wG l h,em,xP,wG l (show i0-1<l.length by omega)]
 (repeat refine sd ?_)
 refine .go (xS.vV (Zt (l.getD i0 []) (l.getD (i0-1) [])) (by simp [D.xT,D.xJ])) ?_;by_cases hq:l.getD i0 []=l.getD (i0-1) []
 case neg=>
  simp only [simprocAttr,-ZA,↓zU,↓zD,zV,zT,zW,decide_eq_false hq]
  refine⟨i0+1,⟨by omega,by omega,λi h1 h3=>?_⟩,?_,by omega⟩
  ·by_cases e:i=i0
   ·rw [e]; exact hq
   ·exact hi3 i h1 (by omega)
  exact sW
 simp only [simprocAttr,-ZA,↓zU,↓zD,zV,zT,zW,decide_eq_true hq];have ei:¬ (i0:Int)= 0:=by omega
 have ei2:¬ (i0:Int)= (l.length:Int):=by omega
 refine⟨i0,l.length,rfl,rfl,by omega,by omega,by omega,?_⟩;simp only [Ah,if_neg ei,if_neg ei2];have d1:wJ l (i0+1)= l.take i0:=by rw [wJ,if_pos ⟨by omega,hq⟩,mV (by omega) hi3]
 refine xO (λa:Nat × List (List Int)=>[(7,.int .i64 a.1),(6,.sub key 1 i0 (l.length-i0)),(5,.int .i64 (wJ l (i0+a.1)).length),(1,.fn 106 []),(0,.yW key 1 l.length)]) (λa=>⟨nx,zJ xW key ⟨1,rl a.2⟩⟩)
  (λa=>1<=a.1/\i0+a.1<=l.length/\a.2.length=l.length/\(wJ l (i0+a.1)).length<i0+a.1/\a.2.take (wJ l (i0+a.1)).length=wJ l (i0+a.1)/\ ∀ j,i0+a.1-1<=j->a.2.getD j []=l.getD j []) (λa=>l.length-a.1) (1,l)
  ⟨ψ _,by omega,rfl,by rw [d1,ε]; omega,by rw [d1,ε,Nat.min_eq_left (by omega)],λj _=>rfl⟩ ?_ ?_
 ·rw [pD hg]
  (refine yO.same ?_; simp [wZ,Fr.get,d1])
  omega
 intro ⟨q,o⟩ ⟨q1,q2,q3,q4,q5,q6⟩;simp only at q1 q2 q3 q4 q5 q6;have hlk:∀ ob:Ob,St.look (zJ xW key ob) key=some ob:=λob=>uN hg;refine xE mixed ?_
 by_cases hp:i0+q<l.length
 ·have hd3:((q:Int)<((l.length-i0:Nat):Int)):=by omega
  have eq1:IntKind.i64.wrap ((q:Int)-1)= ((q-1:Nat):Int):=by rw [wrap_i64 (by omega)]; omega
  simp only [simprocAttr,-ZA,↓zU,↓zD,zV,zT,zW,hd3,hlk,eq1,xP,wG o (show i0+q<o.length by omega),wG o (show i0+(q-1)<o.length by omega)]
  (repeat refine sd ?_)
  refine .go (xS.vV (Zt (o.getD (i0+q) []) (o.getD (i0+(q-1)) [])) (by simp [D.xT,D.xJ])) ?_;have a1:o.getD (i0+q) []=l.getD (i0+q) []:=q6 _ (by omega);have a2:o.getD (i0+(q-1)) []=l.getD (i0+q-1) []:=by rw [q6 _ (by omega)]; congr 1; omega
  rw [a1,a2]
  by_cases hq2:l.getD (i0+q) []=l.getD (i0+q-1) []
  ·have dd:wJ l (i0+(q+1))= wJ l (i0+q):=by show wJ l ((i0+q)+ 1)= _;rw [wJ,if_pos ⟨by omega,hq2⟩]
   simp only [simprocAttr,-ZA,↓zU,↓zD,zV,zT,zW,decide_eq_true hq2];refine⟨(q+1,o),⟨by show 1<=q+1; omega,by show i0+(q+1)<=l.length; omega,q3,by show (wJ l (i0+(q+1))).length<i0+(q+1); rw [dd]; omega,by show o.take (wJ l (i0+(q+1))).length=wJ l (i0+(q+1)); rw [dd,q5],λj hj=>q6 j (by change i0+(q+1)-1<=j at hj; omega)⟩,?_,by show l.length-(q+1)<l.length-q; omega⟩
   (refine yO.same ?_; simp only [wZ,Fr.get,simprocAttr,-ZA,zS,dd])
   exact wrap_i64 (by omega)
  ·have dd:wJ l (i0+(q+1))= wJ l (i0+q)++ [l.getD (i0+q) []]:=by show wJ l ((i0+q)+ 1)= _;rw [wJ,if_neg (λc=>hq2 c.2)]
   have dl:(wJ l (i0+(q+1))).length=(wJ l (i0+q)).length+1:=by rw [dd,γ]; rfl
   simp only [simprocAttr,-ZA,↓zU,↓zD,zV,zT,zW,decide_eq_false hq2,hlk,xP,wG o (show i0+q<o.length by omega),a1]
   (repeat refine sd ?_)
   have c1:(wJ l (i0+q)).length<o.length:=by omega
   have eset:(rl o).set (wJ l (i0+q)).length (((rl o).getD (wJ l (i0+q)).length []).set 0 (D.sl 1 (rows .i64 (l.getD (i0+q) []))))= rl (o.set (wJ l (i0+q)).length (l.getD (i0+q) [])):=by rw [wG o c1];exact Z0 _ _ _
   refine⟨(q+1,o.set (wJ l (i0+q)).length (l.getD (i0+q) [])),⟨by show 1<=q+1; omega,by show i0+(q+1)<=l.length; omega,by show (o.set _ _).length=_; rw [ζ]; exact q3,by show (wJ l (i0+(q+1))).length<i0+(q+1); omega,?_,λj hj=>?_⟩,?_,by show l.length-(q+1)<l.length-q; omega⟩
   ·show (o.set (wJ l (i0+q)).length (l.getD (i0+q) [])).take (wJ l (i0+(q+1))).length=_;rw [dl,yD (d:=[]) (by rw [ζ]; exact c1),bG,if_pos ⟨rfl,c1⟩,dd,τ (ψ _),q5]
   ·change i0+(q+1)-1<=j at hj;show (o.set (wJ l (i0+q)).length (l.getD (i0+q) [])).getD j []=_;rw [bG,if_neg (by omega)];exact q6 j (by omega)
   ·simp only [pF,eset]
    (refine yO.same ?_; simp only [wZ,Fr.get,simprocAttr,-ZA,zS,dl])
    exact⟨wrap_i64 (by omega),wrap_i64 (by omega)⟩
 ·have hd3:¬ ((q:Int)<((l.length-i0:Nat):Int)):=by omega
  have ed:wJ l (i0+q)= dedup l:=by unfold dedup; rw [show i0+q=l.length by omega]
  have c0:0<(dedup l).length:=by have:=wi l (l.length-1);rw [show l.length-1+1=l.length by omega] at this;exact this
  rw [ed] at q4 q5;refine uA hd3 ed ?_;refine⟨(dedup l).length,l.length,rfl,rfl,by omega,by omega,by omega,?_⟩;rw [if_neg (show ¬ ((dedup l).length:Int)= 0 by omega),if_neg (show ¬ ((dedup l).length:Int)= (l.length:Int) by omega)];simp only [Ah,hlk,xP,true_and];refine⟨by omega,by omega,?_⟩;refine⟨0,(dedup l).length,rfl,rfl,by omega,by omega,by omega,?_⟩;rw [if_pos rfl];refine .inl ⟨by rw [Ah],?_⟩;have e2:(rl o).take (dedup l).length=rl (dedup l):=by rw [Ys,q5]
  have e3:(rl o).drop ((dedup l).length+(l.length-(dedup l).length))= []:=ο (by rw [xP]; omega)
  have e4:p8 l=(rl o).take (dedup l).length++(List.replicate (l.length-(dedup l).length) [D.xZ]++(rl o).drop ((dedup l).length+(l.length-(dedup l).length))):=by rw [e2,e3,List.append_nil]; rfl
  rw [e4];simp only [pF]
open Ru
def zK (l:List Int):Nat->List Int
 | 0=>[]
 | k+1=>if 0<k/\l.getD k 0=l.getD (k-1) 0 then zK l k else zK l k ++ [l.getD k 0]
def tI (l:List Int):List Int:=zK l l.length
theorem mZ {l:List Int}:∀ {k:Nat},k<=l.length->(∀ i,0<i->i<k->l.getD i 0≠l.getD (i-1) 0)->zK l k=l.take k
 | 0,_,_=>by simp [zK]
 | k+1,h,hn=>by rw [zK,if_neg (λc=>hn k c.1 (by omega) c.2),mZ (by omega) (λi h1 h2=>hn i h1 (by omega)),<- yD (by omega)]
theorem gV (l:List Int):∀ k,(zK l k).length<=k
 | 0=>ψ _
 | k+1=>by
  have:=gV l k;rw [zK]
  split
  ·omega
  ·rw [γ]; simp; omega
theorem ka (l:List Int) (k:Nat):(zK l k).length<=(zK l (k+1)).length:=by
 rw [zK]; split
 ·exact ψ _
 ·rw [γ]; omega
theorem mj (l:List Int) (i:Nat) (x:Int):(rows .i64 l).set i [.int .i64 x]=rows .i64 (l.set i x):=by simp [rows,List.map_set]
theorem bF (o:List Int) (i j:Nat) (x:Int):(o.set i x).getD j 0=if i=j/\j<o.length then x else o.getD j 0:=by
 simp only [List.getD,υ]
 split
 ·rename_i h; subst h; by_cases hj:i<o.length
  ·simp [hj]
  ·simp [hj]
 ·rename_i h; simp [h]
theorem kU (l:List Int):∀ k,0<(zK l (k+1)).length
 | 0=>by rw [zK,if_neg (by omega),γ]; simp
 | k+1=>ω (kU l k) (ka l (k+1))
def ik (l:List Int):List (List D):=rows .i64 (tI l)++ List.replicate (l.length-(tI l).length) [.int .i64 0]
theorem YJ (l:List Int):(ik l).length=l.length:=by have:=gV l l.length;unfold ik tI;rw [γ,xF,List.length_replicate];omega
theorem jv {σ:St} {key:Nat} {l:List Int} (hget:σ.get key=some ⟨1,rows .i64 l⟩) (hlen:l.length<=1000) (hne:l ≠ []) :
  xS prog 112 [.yW key 1 l.length] σ (.yW key 1 (tI l).length) (σ.set key ⟨1,ik l⟩):=by
 obtain⟨nx,xW⟩:=σ;have hpos:0<l.length:=θ.2 hne;have hg:St.look xW key=some ⟨1,rows .i64 l⟩:=hget
 have whole:tI l=l->(.yW key 1 (tI l).length=D.yW key 1 l.length/\(⟨nx,zJ xW key ⟨1,ik l⟩⟩:St)= ⟨nx,xW⟩):=by
  intro e;refine⟨by rw [e],?_⟩;have:ik l=rows .i64 l:=by unfold ik; rw [e]; simp
  rw [this,pD hg]
 refine zL func112 WE λhf=>?_
 by_cases h2:l.length<2
 ·have hd:(l.length:Int)<2:=by omega
  refine vY hd ?_
  have e:tI l=l:=by unfold tI;rw [mZ (ψ _) (λi h1 h3=>by omega),δ]
  obtain⟨e1,e2⟩:=whole e;exact .inl ⟨e1,e2⟩
 have hd:¬ (l.length:Int)<2:=by omega
 refine vY hd ?_
 refine xO (λk:Nat=>[(3,.int .i64 k),(0,.yW key 1 l.length)]) (λ_=>⟨nx,xW⟩) (λk=>1<=k/\k<=l.length/\∀ i,0<i->i<k->l.getD i 0≠l.getD (i-1) 0) (λk=>l.length-k) 1 ⟨ψ _,by omega,λi h1 h2=>by omega⟩ ?_ ?_
 ·exact wI
 intro i0 ⟨hi1,hi2,hi3⟩;refine xE mixed ?_;by_cases h:i0<l.length
 case neg=>
  have hd:¬ ((i0:Int)<(l.length:Int)):=by omega
  have e:tI l=l:=by unfold tI;rw [mZ (ψ _) (λi h1 h3=>hi3 i h1 (by omega)),δ]
  obtain⟨e1,e2⟩:=whole e;refine vY hd ?_;exact .inl ⟨e1,e2⟩
 have hd:((i0:Int)<(l.length:Int)):=by omega
 have em:IntKind.i64.wrap ((i0:Int)-1)= ((i0-1:Nat):Int):=by rw [wrap_i64 (by omega)]; omega
 by_cases hq:l.getD i0 0=l.getD (i0-1) 0
 case neg=>
  have hq':(l.getD i0 0==l.getD (i0-1) 0)= false:=by simpa using hq
  simp only [simprocAttr,-ZA,↓zU,↓zD,zV,zT,zW,hd,hg,yU .i64 l h,em,yU .i64 l (show i0-1<l.length by omega),hq']
  (repeat refine sd ?_)
  refine⟨i0+1,⟨by omega,by omega,λi h1 h3=>?_⟩,?_,by omega⟩
  ·by_cases e:i=i0
   ·rw [e]; exact hq
   ·exact hi3 i h1 (by omega)
  exact sW
 have hq':(l.getD i0 0==l.getD (i0-1) 0)= true:=by simpa using hq
 simp only [simprocAttr,-ZA,↓zU,↓zD,zV,zT,zW,hd,hg,yU .i64 l h,em,yU .i64 l (show i0-1<l.length by omega),hq']
 (repeat refine sd ?_)
 have ei:¬ (i0:Int)= 0:=by omega
 have ei2:¬ (i0:Int)= (l.length:Int):=by omega
 refine⟨i0,l.length,rfl,rfl,by omega,by omega,by omega,?_⟩;simp only [Ah,if_neg ei,if_neg ei2];have d1:zK l (i0+1)= l.take i0:=by rw [zK,if_pos ⟨by omega,hq⟩,mZ (by omega) hi3]
 refine xO (λa:Nat × List Int=>[(5,.int .i64 a.1),(4,.sub key 1 i0 (l.length-i0)),(3,.int .i64 (zK l (i0+a.1)).length),(0,.yW key 1 l.length)]) (λa=>⟨nx,zJ xW key ⟨1,rows .i64 a.2⟩⟩)
  (λa=>1<=a.1/\i0+a.1<=l.length/\a.2.length=l.length/\(zK l (i0+a.1)).length<i0+a.1/\a.2.take (zK l (i0+a.1)).length=zK l (i0+a.1)/\ ∀ j,i0+a.1-1<=j->a.2.getD j 0=l.getD j 0) (λa=>l.length-a.1) (1,l)
  ⟨ψ _,by omega,rfl,by rw [d1,ε]; omega,by rw [d1,ε,Nat.min_eq_left (by omega)],λj _=>rfl⟩ ?_ ?_
 ·rw [pD hg]
  (refine yO.same ?_; simp [wZ,Fr.get,d1])
  omega
 intro ⟨q,o⟩ ⟨q1,q2,q3,q4,q5,q6⟩;simp only at q1 q2 q3 q4 q5 q6;have hlk:∀ ob:Ob,St.look (zJ xW key ob) key=some ob:=λob=>uN hg;refine xE mixed ?_
 by_cases hp:i0+q<l.length
 ·have hd3:((q:Int)<((l.length-i0:Nat):Int)):=by omega
  have eq1:IntKind.i64.wrap ((q:Int)-1)= ((q-1:Nat):Int):=by rw [wrap_i64 (by omega)]; omega
  have a1:o.getD (i0+q) 0=l.getD (i0+q) 0:=q6 _ (by omega);have a2:o.getD (i0+(q-1)) 0=l.getD (i0+q-1) 0:=by rw [q6 _ (by omega)]; congr 1; omega
  by_cases hq2:l.getD (i0+q) 0=l.getD (i0+q-1) 0
  ·have dd:zK l (i0+(q+1))= zK l (i0+q):=by show zK l ((i0+q)+ 1)= _;rw [zK,if_pos ⟨by omega,hq2⟩]
   have hq3:(l.getD (i0+q) 0 != l.getD (i0+q-1) 0)= false:=by simpa using hq2
   simp only [simprocAttr,-ZA,↓zU,↓zD,zV,zT,zW,hd3,hlk,eq1,yU .i64 o (show i0+q<o.length by omega),yU .i64 o (show i0+(q-1)<o.length by omega),a1,a2,hq3]
   (repeat refine sd ?_)
   refine⟨(q+1,o),⟨by show 1<=q+1; omega,by show i0+(q+1)<=l.length; omega,q3,by show (zK l (i0+(q+1))).length<i0+(q+1); rw [dd]; omega,by show o.take (zK l (i0+(q+1))).length=zK l (i0+(q+1)); rw [dd,q5],λj hj=>q6 j (by change i0+(q+1)-1<=j at hj; omega)⟩,?_,by show l.length-(q+1)<l.length-q; omega⟩
   (refine yO.same ?_; simp only [wZ,Fr.get,simprocAttr,-ZA,zS,dd])
   exact wrap_i64 (by omega)
  ·have dd:zK l (i0+(q+1))= zK l (i0+q)++ [l.getD (i0+q) 0]:=by show zK l ((i0+q)+ 1)= _;rw [zK,if_neg (λc=>hq2 c.2)]
   have dl:(zK l (i0+(q+1))).length=(zK l (i0+q)).length+1:=by rw [dd,γ]; rfl
   have hq3:(l.getD (i0+q) 0 != l.getD (i0+q-1) 0)= true:=by simpa using hq2
   simp only [simprocAttr,-ZA,↓zU,↓zD,zV,zT,zW,hd3,hlk,eq1,yU .i64 o (show i0+q<o.length by omega),yU .i64 o (show i0+(q-1)<o.length by omega),a1,a2,hq3]
   (repeat refine sd ?_)
   have c1:(zK l (i0+q)).length<o.length:=by omega
   have eset:(rows .i64 o).set (zK l (i0+q)).length (((rows .i64 o).getD (zK l (i0+q)).length []).set 0 (D.int .i64 (l.getD (i0+q) 0)))= rows .i64 (o.set (zK l (i0+q)).length (l.getD (i0+q) 0)):=by rw [yU .i64 o c1];exact mj _ _ _
   refine⟨(q+1,o.set (zK l (i0+q)).length (l.getD (i0+q) 0)),⟨by show 1<=q+1; omega,by show i0+(q+1)<=l.length; omega,by show (o.set _ _).length=_; rw [ζ]; exact q3,by show (zK l (i0+(q+1))).length<i0+(q+1); omega,?_,λj hj=>?_⟩,?_,by show l.length-(q+1)<l.length-q; omega⟩
   ·show (o.set (zK l (i0+q)).length (l.getD (i0+q) 0)).take (zK l (i0+(q+1))).length=_;rw [dl,yD (d:=0) (by rw [ζ]; exact c1),bF,if_pos ⟨rfl,c1⟩,dd,τ (ψ _),q5]
   ·change i0+(q+1)-1<=j at hj;show (o.set (zK l (i0+q)).length (l.getD (i0+q) 0)).getD j 0=_;rw [bF,if_neg (by omega)];exact q6 j (by omega)
   ·simp only [pF,eset]
    (refine yO.same ?_; simp only [wZ,Fr.get,simprocAttr,-ZA,zS,dl])
    exact⟨wrap_i64 (by omega),wrap_i64 (by omega)⟩
 ·have hd3:¬ ((q:Int)<((l.length-i0:Nat):Int)):=by omega
  have ed:zK l (i0+q)= tI l:=by unfold tI; rw [show i0+q=l.length by omega]
  have c0:0<(tI l).length:=by have:=kU l (l.length-1);rw [show l.length-1+1=l.length by omega] at this;exact this
  rw [ed] at q4 q5;refine uA hd3 ed ?_;refine⟨(tI l).length,l.length,rfl,rfl,by omega,by omega,by omega,?_⟩;rw [if_neg (show ¬ ((tI l).length:Int)= 0 by omega),if_neg (show ¬ ((tI l).length:Int)= (l.length:Int) by omega)];simp only [Ah,hlk,xF,true_and];refine⟨by omega,by omega,?_⟩;refine⟨0,(tI l).length,rfl,rfl,by omega,by omega,by omega,?_⟩;rw [if_pos rfl];refine .inl ⟨by rw [Ah],?_⟩;have e2:(rows .i64 o).take (tI l).length=rows .i64 (tI l):=by rw [bU,q5]
  have e3:(rows .i64 o).drop ((tI l).length+(l.length-(tI l).length))= []:=ο (by rw [xF]; omega)
  have e4:ik l=(rows .i64 o).take (tI l).length++(List.replicate (l.length-(tI l).length) [D.int .i64 0]++(rows .i64 o).drop ((tI l).length+(l.length-(tI l).length))):=by rw [e2,e3,List.append_nil]; rfl
  rw [e4];simp only [pF]
namespace Ru
def sF (rs:List xN) (a r t:Nat):List Int:=(List.range t).map λi=>iH rs a (r,i)
def lN (rs:List xN) (a:Nat) (p:Nat × Nat):List Int:=tI (sF rs a p.1 (p.2+1))
theorem fF (rs:List xN) (a r t:Nat):(sF rs a r t).length=t:=by simp [sF]
theorem ky (rs:List xN) (a r t:Nat):sF rs a r (t+1)= sF rs a r t ++ [iH rs a (r,t)]:=by unfold sF; rw [List.range_succ,List.map_append]; rfl
end Ru
theorem kd {rs:List xN} {A F T:Nat} (ok:lS rs A F T) {a:Nat} (ha:a<A) {p:Nat × Nat} (hp:p.1<rs.length/\p.2<T):yA prog 59 [sD A F T rs,.int .i64 a,.agg [.int .i64 (p.1:Int),.int .i64 (p.2:Int)]] (.sl 1 (rows .i64 (lN rs a p))):=by
 obtain⟨T1,T16⟩:=ok.hT;have hm:=yX (d:=yF) hp.1;have hg:=wE rs hp.1;have h1:=ok.loc _ hm;have h2:=λ(t:Nat) (ht:t<T)=>ok.row _ hm _ (yX (d:=[]) (show t<(rs.getD p.1 yF).loc.length by omega));obtain⟨r,t⟩:=p;simp only at hp hm hg h1 h2 ⊢;have hloc:∀ i,iH rs a (r,i)= ((rs.getD r yF).loc.getD i []).getD a 0:=λi=>rfl;unfold sD lN;generalize rs.getD r yF=R at hg h1 h2 hloc;have hw:IntKind.i64.wrap ((t:Int)+ 1)= ((t+1:Nat):Int):=wrap_i64 (by omega);refine zL func59 Sc λhf=>?_;refine vY hw ?_
 refine xO (λk:Nat=>[(12,.int .i64 k),(11,.int .i64 ((t+1:Nat):Int)),(7,xI 2 1 (rows .i64 (sF rs a r k))),(5,.ref 1 2 0 0),(3,.ref 0 4 0 0),(1,.int .i64 a)])
  (λk=>⟨3,xM 2 1 (rows .i64 (sF rs a r k))++ [(1,⟨2,[[.int .i64 r,.int .i64 t]]⟩),(0,⟨4,[[.int .i64 A,.int .i64 F,.int .i64 T,.sl 2 (xK rs)]]⟩)]⟩)
  (λk=>k<=t+1) (λk=>t+1-k) 0 (Ac _) ?_ ?_
 ·(refine lP [] [1,0] ?_; simp only [vX,zQ,simprocAttr,-ZA,exists_eq_left',ne_eq,zR,sF,List.range_zero,List.map_nil,wK,wL,List.nil_append])
 intro k hk;refine xE mixed ?_
 by_cases hkl:k<t+1
 ·have hd:((k:Int)<((t+1:Nat):Int)):=by omega
  have hS:=ky rs a r k;rw [hloc k] at hS;have hln:=fF rs a r k;have hg2:=wG R.loc (show k<R.loc.length by omega);have h3:=h2 k (by omega);generalize R.loc.getD k []=x at hg2 h3 hS;have hg3:=yU .i64 x (show a<x.length by omega);generalize sF rs a r k=l at hS hln;simp only [simprocAttr,-ZA,↓zU,↓zD,zV,zT,zW,hd,xV,hg,xN.row,xP,hg2,hg3,hln]
  (repeat refine sd ?_)
  refine⟨k+1,by omega,?_,by omega⟩;rw [hS];exact ZU [(2,3)] [2,1,0]
 have hd:¬ ((k:Int)<((t+1:Nat):Int)):=by omega
 obtain rfl:k=t+1:=by omega
 have hln:=fF rs a r (t+1);generalize sF rs a r (t+1)= l at hln ⊢
 obtain⟨x,l',rfl⟩:∃ x l',l=x :: l':=by
  cases l with
  | nil=>simp at hln
  | cons x l'=>exact⟨x,l',rfl⟩
 have hc:=jv (σ:=⟨3,[(2,⟨1,rows .i64 (x :: l')⟩),(1,⟨2,[[.int .i64 r,.int .i64 t]]⟩),(0,⟨4,[[.int .i64 A,.int .i64 F,.int .i64 T,.sl 2 (xK rs)]]⟩)]⟩) (key:=2) (l:=x :: l') rfl (by omega) (by simp)
 have hne:0<(tI (x :: l')).length:=by have:=kU (x :: l') l'.length;exact this
 refine vY hd ?_;refine .go hc ?_;refine wU ?_;refine .drop (by simp) ?_;have hl1:=YJ (x :: l');have hl2:(ik (x :: l')).take (tI (x :: l')).length=rows .i64 (tI (x :: l')):=by unfold ik; rw [List.take_left' (xF _ _)]
 simp only [vw];refine⟨trivial,by decide,by simp,⟨1,ik (x :: l')⟩,rfl,rfl,?_,hl2.symm,vK _ _⟩;have:=gV (x :: l') (x :: l').length;show (tI (x :: l')).length<=(ik (x :: l')).length;rw [hl1]; exact this
end Go.Pd
