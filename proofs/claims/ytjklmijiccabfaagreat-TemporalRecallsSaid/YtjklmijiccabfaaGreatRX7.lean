/- Part X7. -/
import Derived.Test.YtjklmijiccabfaaGreatRX6
import Derived.Shelf.SlSortCmp.NoneTotal
set_option linter.unusedSectionVars false
set_option linter.unusedVariables false
set_option linter.unusedSimpArgs false
set_option linter.defProp false
namespace Go.Pd
open Go Go.Proofs Go.Shelf Go.Sort
variable [Tabs]
def SortEl (M:Nat->Prop) (w:World) (C:D->Prop):Type:={ p:Value × D // RP M w p.1 p.2/\p.1.oneCell'=true/\C p.2 }
theorem sortWorld_block {α:Type} [Inhabited α] (enc:α->Value) (w:World) (blk off m:Nat) (d:Array α) (os:Array Obj) {b:Nat} (hb:b<w.heap.size) (hn:b≠blk):(sortWorld enc w blk off m d os).heap[b]?=w.heap[b]?:=by
 show (((Sort.ahead w m).heap.modify blk (onCells (putCells enc off d)))++ os)[b]?=_
 rw [Array.getElem?_append_left (by simpa using hb),Array.getElem?_modify,if_neg (fun e=>hn e.symm)]
 rfl
theorem sortWorld_size {α:Type} [Inhabited α] (enc:α->Value) (w:World) (blk off m:Nat) (d:Array α) (os:Array Obj):w.heap.size<=(sortWorld enc w blk off m d os).heap.size:=by
 show w.heap.size<=(((Sort.ahead w m).heap.modify blk (onCells (putCells enc off d)))++ os).size
 simp [Sort.ahead]
theorem sortWorld_eq {α:Type} [Inhabited α] (enc:α->Value) (w:World) (blk off m:Nat) (d:Array α) (os:Array Obj) {cur:Array Value} {e:TypeId} {fr:Nat × Nat} (hc:w.heap[blk]?=some (Obj.cells cur e fr)) :
  sortWorld enc w blk off m d os=grow ((w.setRow blk (putCells enc off d cur)).drewN m) os:=by
 unfold sortWorld
 congr 1
 unfold putRow mapBlock Sort.ahead World.drewN World.setRow
 congr 1
 apply Array.ext_getElem?
 intro k
 simp only [Array.getElem?_modify]
 by_cases hk:blk=k
 ·subst hk
  simp only [if_true,hc,Option.map_some,onCells]
 ·simp [hk]
theorem kept_world {w w':World} (h:Kept w w' fun _=>False):∃ q os,w'=grow (w.drewN q) os:=by
 refine⟨w'.drawn-w.drawn,w'.heap.extract w.heap.size w'.heap.size,?_⟩
 have hd:=h.drawn
 have hs:=h.size
 obtain⟨heap,tape,drawn,os,output⟩:=w
 obtain⟨heap',tape',drawn',os',output'⟩:=w'
 have h1:=h.os
 have h2:=h.tape
 have h3:=h.output
 have h4:=h.block
 simp only at h1 h2 h3 h4 hd hs
 subst h1; subst h2; subst h3
 unfold grow World.drewN
 simp only [World.mk.injEq,and_true,true_and]
 refine⟨?_,by omega⟩
 apply Array.ext_getElem?
 intro i
 by_cases hi:i<heap.size
 ·rw [Array.getElem?_append_left hi,h4 i hi id]
 ·rw [Array.getElem?_append_right (by omega),Array.getElem?_extract]
  by_cases h2:i<heap'.size
  ·rw [if_pos (by omega)]
   congr 1; omega
  ·rw [if_neg (by omega)]
   exact Array.getElem?_eq_none (by omega)
theorem kept_grow {w:World} (q:Nat) (os:Array Obj):Kept w (grow (w.drewN q) os) fun _=>False:=by
 refine⟨rfl,rfl,rfl,by simp [World.drewN],fun b hb _=>?_,fun b cur e h=>⟨cur,?_,rfl⟩,by show w.drawn<=w.drawn+q; omega⟩
 ·show (w.heap++os)[b]?=_
  rw [Array.getElem?_append_left hb]
 ·have hb:b<w.heap.size:=(Array.getElem?_eq_some_iff.1 h).1
  show (w.heap++os)[b]?=_
  rw [Array.getElem?_append_left hb]
  exact h
def hd (e:List D):D:=e.getD 0 .top
def SortedD (cf:D->D->Int) (els:List (List D)):Prop:=∀ i j,i<j->j<els.length->¬ cf (hd (els.getD j [])) (hd (els.getD i []))<0
def SortEl.enc {M:Nat->Prop} {w:World} {C:D->Prop} (a:SortEl M w C):Value:=a.1.1
def SortEl.dat {M:Nat->Prop} {w:World} {C:D->Prop} (a:SortEl M w C):D:=a.1.2
def SortEl.cf {M:Nat->Prop} {w:World} {C:D->Prop} (cf:D->D->Int) (a b:SortEl M w C):Int:=cf a.dat b.dat
theorem array_pick {α:Type} [Inhabited α] {n:Nat} {p:Nat->α->Prop} (h:∀ i,i<n->∃ a,p i a):∃ d:Array α,d.size=n/\∀ i,i<n->p i d[i]!:=by
 obtain⟨f,hf⟩:=Deep.choose_lt h
 refine⟨((List.range n).map f).toArray,by simp,fun i hi=>?_⟩
 rw [getElem!_pos _ i (by simpa using hi)]
 simpa using hf i hi
theorem extract_all {α:Type} (a:Array α):a.extract 0 a.size=a:=by simp
theorem sort_lays {P:Program} {g:FuncId} {C:D->Prop} {cf:D->D->Int} (hcmp:∀ x y,C x->C y->Runs P g [x,y] (.int .i64 (cf x y))) {M0:Nat->Prop} {w:World} {σ:St} {ι:Nat->Nat} (hS:SimS M0 w σ ι) {key:Nat} {ob:Ob} (hget:σ.get key=some ob) (size:Nat) [Inhabited (SortEl (Mof M0 ι σ) w C)] :
  CmpLays1 P g #[] (SortEl.enc (M:=Mof M0 ι σ) (w:=w) (C:=C)) (SortEl.cf cf) (ι key) 0 size w:=by
 intro m os dk hdk x y
 have hne:∀ b,¬ Mof M0 ι σ b->b≠ι key:=fun b hb e=>hb (.inr ⟨key,ob,hget,e.symm⟩)
 have hM:∀ b,Mof (Mof M0 ι σ) ι St0 b->Mof M0 ι σ b:=by
  rintro b (h | ⟨k,o,hk,_⟩)
  ·exact h
  ·cases hk
 have hsz:=sortWorld_size SortEl.enc w (ι key) 0 m dk os
 have hblock:∀ b,b<w.heap.size->¬ Mof M0 ι σ b->(sortWorld SortEl.enc w (ι key) 0 m dk os).heap[b]?=w.heap[b]?:=fun b hb hn=>sortWorld_block SortEl.enc w (ι key) 0 m dk os hb (hne b hn)
 have S1:SimS (Mof M0 ι σ) (sortWorld SortEl.enc w (ι key) 0 m dk os) St0 ι:=
  ⟨fun b hb=>Nat.lt_of_lt_of_le (Mof.lt hS hb) hsz,(fun k o hk=>by cases hk),(fun k k' o o' hk=>by cases hk),(fun k o hk=>by cases hk),hS.tabs.keep hsz hblock fun b _ hb=>hM b hb⟩
 have keep:∀ z:SortEl (Mof M0 ι σ) w C,RP (Mof (Mof M0 ι σ) ι St0) (sortWorld SortEl.enc w (ι key) 0 m dk os) z.enc z.dat:=fun z=>z.2.1.keep hblock fun b _ hb=>hM b hb
 refine((hcmp x.dat y.dat x.2.2.2 y.2.2.2).run _ _ ι (#[x.enc,y.enc] ++ #[]) S1 rfl fun j hj=>?_).mono fun e w' hh=>?_
 ·match j,hj with
  | 0,_=>exact .pure (keep x)
  | 1,_=>exact .pure (keep y)
 ·obtain⟨v,ι',rfl,k1,k2,k3,k4,k5,k6⟩:=hh
  have K0:Kept (sortWorld SortEl.enc w (ι key) 0 m dk os) w' fun _=>False:=k1.mono fun b _ ⟨k,o,hk,_⟩=>by cases hk
  refine⟨?_,kept_world K0⟩
  rw [k6.int_inv.1]
  rfl
set_option maxHeartbeats 1000000 in
theorem sort_own {P:Program} {ρ:Ren} (L:SlLaysF.n6 P ρ) (hord:Ordinary P (ρ.f 6)) {g:FuncId} {C:D->Prop} {cf:D->D->Int}
  (hg:Ordinary P g) (hcmp:∀ x y,C x->C y->Runs P g [x,y] (.int .i64 (cf x y)))
  (hirr:∀ x,C x->¬ cf x x<0) (htr:∀ x y z,C x->C y->C z->cf x y<0->cf y z<0->cf x z<0) (hntr:∀ x y z,C x->C y->C z->¬ cf x y<0->¬ cf y z<0->¬ cf x z<0)
  {σ:St} {key:Nat} {els target:List (List D)} (hget:σ.get key=some ⟨1,els⟩) (hels:∀ e ∈ els,∃ d:D,e = [d]/\d.isPure=true/\C d) (hlen:els.length<4611686018427387904) (hne:els ≠ [])
  (hT:∀ els',els'.Perm els->SortedD cf els'->els'=target) :
  CallT P (ρ.f 6) [.osl key 1 els.length,.fn g []] σ (.tup []) (σ.set key ⟨1,target⟩):=by
 refine⟨hord,fun M0 w ι vals hS hl hv=>?_⟩
 have h0:=hv 0 (by simp)
 have h1:=hv 1 (by simp)
 simp only [List.getD_cons_zero,List.getD_cons_succ] at h0 h1
 obtain⟨cap,cur0,e0,e1,kk,a1,a2,a3,a4⟩:=h0.osl_inv
 obtain⟨cb,f1,f2,f3⟩:=h1.fn_inv
 have hcb:cb = #[]:=Array.eq_empty_of_size_eq_zero (by simpa using f2)
 subst hcb
 have hvals:vals = #[.slice (some ⟨ι key,0,none⟩) els.length cap,.func (.func g) #[] #[]]:=by
  obtain⟨l⟩:=vals
  match l,hl with
  | [x,y],_=>
   simp at e1 f1
   rw [e1,f1]
 subst hvals
 clear h0 h1 hv e1 f1 f2 f3 hl
 have hk:=(hS.holds key _ hget).1
 obtain⟨cur,e,c1,c2,c3,c4⟩:=HoldsB.cells (hS.holds key _ hget).2 (Nat.lt_succ_self 0)
 simp only [Nat.mul_one] at c3
 have cell:∀ i,i<els.length->∃ a:SortEl (Mof M0 ι σ) w C,a.enc=cur.getD i undef/\els.getD i [] = [a.dat]:=by
  intro i hi
  have hm:els.getD i [] ∈ els:=by simp [List.getD,hi]
  obtain⟨d,hd,hp,hc⟩:=hels _ hm
  have h:=c4 i hi 0 (Nat.lt_succ_self 0)
  simp only [Nat.mul_one,Nat.add_zero] at h
  rw [hd] at h
  exact⟨⟨(cur.getD i undef,d),h.2.toRP hp,h.1,hc⟩,rfl,hd⟩
 have hpos:0<els.length:=List.length_pos_iff.2 hne
 obtain⟨a0,_⟩:=cell 0 hpos
 haveI:Inhabited (SortEl (Mof M0 ι σ) w C):=⟨a0⟩
 obtain⟨d,hds,hdi⟩:=array_pick cell
 have hO:SWO (ltOf (SortEl.cf (M:=Mof M0 ι σ) (w:=w) (C:=C) cf)):=by
  exact⟨fun x=>decide_eq_false (hirr x.dat x.2.2.2),fun x y z h1 h2=>decide_eq_true (htr x.dat y.dat z.dat x.2.2.2 y.2.2.2 z.2.2.2 (of_decide_eq_true h1) (of_decide_eq_true h2)),
   fun x y z h1 h2=>decide_eq_false (hntr x.dat y.dat z.dat x.2.2.2 y.2.2.2 z.2.2.2 (of_decide_eq_false h1) (of_decide_eq_false h2))⟩
 have hH:Holds SortEl.enc w (ι key) 0 d:=by
  intro j hj
  have hj':j<els.length:=by omega
  have hjc:j<cur.size:=by omega
  refine⟨?_,?_⟩
  ·rw [(hdi j hj').1]
   simp [World.cell?,c1,Array.getD,hjc]
  ·simp [World.frozen?,c1]
 have hcall:=Any.slices_SortFunc L (SortEl.enc (M:=Mof M0 ι σ) (w:=w) (C:=C)) (fun x=>x.2.2.1) (SortEl.cf cf) hO g #[] (ι key) 0 cap d w (fun args w=>run_callFunc hg args w) (sort_lays hcmp hS hget d.size) hH (Array.getElem?_eq_some_iff.1 c1).1 (by omega)
 rw [hds] at hcall
 refine hcall.mono fun e' w' hh=>?_
 obtain⟨rfl,d',n,os,hp,hs,rfl⟩:=hh
 rw [<- hds] at hp hs
 have hsz:d'.size=d.size:=hp.1
 have e1:d.toList.map (fun a=>[a.dat])= els:=by
  refine List.ext_getElem (by simpa using hds) fun i h1 h2=>?_
  have:=(hdi i h2).2
  rw [getElem!_pos d i (by omega)] at this
  simp only [List.getElem_map,Array.getElem_toList]
  simp only [List.getD,List.getElem?_eq_getElem h2,Option.getD_some] at this
  exact this.symm
 have hperm:(d'.toList.map fun a=>[a.dat]).Perm els:=by
  rw [<- e1]
  have:=hp.2.2
  rw [<- hsz] at this
  conv at this=>lhs; rw [extract_all d']
  rw [hsz,extract_all d] at this
  exact this.map _
 have hgd:∀ i,i<d'.size->hd ((d'.toList.map fun a=>[a.dat]).getD i [])= (d'[i]!).dat:=by
  intro i hi
  rw [getElem!_pos d' i hi]
  simp [hd,List.getD,hi]
 have hsort:SortedD cf (d'.toList.map fun a=>[a.dat]):=by
  intro i j hij hj
  have hj':j<d'.size:=by simpa using hj
  rw [hgd j hj',hgd i (by omega)]
  have:=hs i j (Nat.zero_le _) hij (by omega)
  exact of_decide_eq_false this
 have htarget:=hT _ hperm hsort
 have htl:target.length=els.length:=by rw [<- htarget]; exact hperm.length_eq
 rw [sortWorld_eq _ _ _ _ _ _ _ c1]
 have hcs:(putCells SortEl.enc 0 d' cur).size=cur.size:=by simp [putCells]
 obtain⟨S2,K2⟩:=hS.set (ob':=⟨1,target⟩) hget c1 hcs (Nat.lt_succ_self 0) (by simp only [Nat.mul_one]; omega) ⟨fun el he=>by
   rw [<- htarget] at he
   simp only [List.mem_map] at he
   obtain⟨a,_,rfl⟩:=he
   rfl,fun i hi j hj=>by
   have hj0:j=0:=by simp only at hj; omega
   subst hj0
   simp only [Nat.mul_one,Nat.add_zero]
   have hi':i<d'.size:=by simp only at hi; omega
   have hic:i<cur.size:=by omega
   have ev:(putCells SortEl.enc 0 d' cur).getD i undef=(d'[i]!).enc:=by
    simp [putCells,Array.getD,hic,hi']
   have ed:(target.getD i []).getD 0 .top=(d'[i]!).dat:=by
    rw [<- htarget]; exact hgd i hi'
   rw [ev,ed]
   exact⟨(d'[i]!).2.2.1,.pure (d'[i]!).2.1⟩⟩
 have K3:=kept_grow (w:=w.setRow (ι key) (putCells SortEl.enc 0 d' cur)) n os
 refine⟨.tuple #[],ι,rfl,K2.trans K3 (fun _ _ h=>h) (fun _ _ h=>h.elim),S2.ext K3,Nat.le_refl _,fun _ _=>rfl,fun k o hk=>?_,.tup rfl (fun j hj=>by simp at hj)⟩
 by_cases ek:k=key
 ·subst ek; exact .inr ⟨k,_,hget,rfl⟩
 ·refine .inr ⟨k,o,?_,rfl⟩
  rw [look_set,if_neg (fun e=>ek e.symm)] at hk
  exact hk
end Go.Pd
