/- Part SC. -/
import Derived.Test.YtndfaefmmcoapaaGreatUfP7
import Derived.Test.YtndfaefmmcoapaaGreatUfX6
import Derived.Shelf.SlSortCmp.NoneTotal
set_option linter.unusedSectionVars false
set_option linter.unusedVariables false
set_option linter.unusedSimpArgs false
set_option linter.defProp false
set_option maxRecDepth 20000
set_option maxHeartbeats 1000000
open Go.Proofs.Tryz
open List renaming mem_range->γ,map_congr_left->δ,mem_map->ε,any_eq_false->ζ,ext_getElem->η,drop_eq_nil_of_le->θ,length_append->κ,length_range->μ,mem_cons->ν,getElem_map->ξ,length_map->ο,mem_cons_of_mem->π,getElem_range->τ,length_take->υ,length_cons->χ,getElem_set->ω,pairwise_iff_getElem->Aa,map_map->Ab,map_id->Ac,length_pos_iff->Ad,take_length->Ae,filter_cons->Af,cons_append->Ag
open Nat renaming zero_le->Ah,le_refl->Ai,lt_succ_self->Aj,mul_comm->Ak,div_eq_of_lt->Al,mul_one->Am,mul_add_div->An,add_zero->Ao,lt_of_lt_of_le->Ap
open Int renaming toNat_natCast->Aq,eq_ofNat_of_zero_le->Ar
open Array renaming getElem?_append_left->As,getElem?_eq_some_iff->Au,getElem?_modify->Av,ext_getElem?->Aw
namespace Go.Pd
open Go Go.Proofs
open BitVec renaming isValue -> ZA
open Ru
namespace Ru
def rH : List Int->List Int->Int
 | [],[]=>0
 | [],_ :: _=>-1
 | _ :: _,[]=>1
 | x :: a,y :: b=>if x<y then -1 else if y<x then 1 else rH a b
theorem gy : ∀ a:List Int,rH a a=0
 | []=>rfl
 | x :: a=>by unfold rH; rw [if_neg (by omega),if_neg (by omega)]; exact gy a
theorem oh : ∀ a b:List Int,rH a b = -1\/rH a b=0\/rH a b=1
 | [],[]=>.inr (.inl rfl)
 | [],_ :: _=>.inl rfl
 | _ :: _,[]=>.inr (.inr rfl)
 | x :: a,y :: b=>by
  unfold rH
  split
  ·exact .inl rfl
  ·split
   ·exact .inr (.inr rfl)
   ·exact oh a b
theorem gx : ∀ {a b:List Int},rH a b=0->a=b
 | [],[],_=>rfl
 | [],_ :: _,h=>by simp [rH] at h
 | _ :: _,[],h=>by simp [rH] at h
 | x :: a,y :: b,h=>by
  unfold rH at h
  split at h
  ·omega
  ·split at h
   ·omega
   ·rw [gx h,show x=y by omega]
theorem gw : ∀ a b:List Int,rH b a =-rH a b
 | [],[]=>rfl
 | [],_ :: _=>rfl
 | _ :: _,[]=>rfl
 | x :: a,y :: b=>by
  unfold rH
  by_cases h1:x<y
  ·rw [if_pos h1,if_neg (by omega),if_pos h1]; rfl
  ·by_cases h2:y<x
   ·rw [if_pos h2,if_neg h1,if_pos h2]
   ·rw [if_neg h2,if_neg h1,if_neg h1,if_neg h2]; exact gw a b
theorem om : ∀ {a b c:List Int},rH a b<0->rH b c<0->rH a c<0
 | [],[],_,h,_=>by simp [rH] at h
 | [],_ :: _,[],_,h=>by simp [rH] at h
 | [],_ :: _,_ :: _,_,_=>by simp [rH]
 | _ :: _,[],_,h,_=>by simp [rH] at h
 | _ :: _,_ :: _,[],_,h=>by simp [rH] at h
 | x :: a,y :: b,z :: c,h1,h2=>by
  unfold rH at h1 h2 ⊢
  by_cases hxy:x<y
  ·by_cases hyz:z<y
   ·rw [if_neg (by omega),if_pos hyz] at h2; omega
   ·rw [if_pos (by omega)]; omega
  ·rw [if_neg hxy] at h1
   by_cases hyx:y<x
   ·rw [if_pos hyx] at h1; omega
   ·rw [if_neg hyx] at h1
    by_cases hyz:y<z
    ·rw [if_pos (by omega)]; omega
    ·rw [if_neg hyz] at h2
     by_cases hzy:z<y
     ·rw [if_pos hzy] at h2; omega
     ·rw [if_neg hzy] at h2;rw [if_neg (by omega),if_neg (by omega)];exact om h1 h2
theorem QR (b:List Int):rH [] b=if b.length=0 then 0 else -1:=by cases b <;> rfl
def kc (a b:List Int):Int:=if a.length<b.length then -1 else if b.length<a.length then 1 else rH a b
theorem Vy (a:List Int):kc a a=0:=by unfold kc; rw [if_neg (by omega),if_neg (by omega)]; exact gy a
theorem Xc (a b:List Int):kc a b = -1\/kc a b=0\/kc a b=1:=by
 have:=oh a b
 unfold kc; split
 ·exact .inl rfl
 ·split
  ·exact .inr (.inr rfl)
  ·exact this
theorem uo {a b:List Int} (h:kc a b=0):a=b:=by
 unfold kc at h
 split at h
 ·omega
 ·split at h
  ·omega
  ·exact gx h
theorem lO (a b:List Int):kc b a =-kc a b:=by
 have:=gw a b;unfold kc
 by_cases h1:a.length<b.length
 ·rw [if_neg (by omega),if_pos h1,if_pos h1]; rfl
 ·by_cases h2:b.length<a.length
  ·rw [if_pos h2,if_neg h1,if_pos h2]
  ·rw [if_neg h2,if_neg h1,if_neg h1,if_neg h2]; exact this
theorem qo {a b c:List Int} (h1:kc a b<0) (h2:kc b c<0):kc a c<0:=by
 have:=@om a b c;unfold kc at h1 h2 ⊢
 by_cases x1:a.length<c.length
 ·rw [if_pos x1]; omega
 rw [if_neg x1]
 by_cases y1:a.length<b.length
 ·rw [if_neg (by omega),if_pos (by omega)] at h2; omega
 ·rw [if_neg y1] at h1
  by_cases y2:b.length<a.length
  ·rw [if_pos y2] at h1; omega
  ·rw [if_neg y2] at h1;rw [if_neg (by omega)] at h2
   by_cases y3:c.length<b.length
   ·rw [if_pos y3] at h2; omega
   ·rw [if_neg y3] at h2;rw [if_neg (by omega)];exact this h1 h2
theorem eL {a b c:List Int} (h1:¬ kc a b<0) (h2:¬ kc b c<0):¬ kc a c<0:=by
 intro h
 by_cases e1:kc a b=0
 ·rw [uo e1] at h; exact h2 h
 ·by_cases e2:kc b c=0
  ·rw [<- uo e2] at h; exact h1 h
  ·have r1:=Xc a b;have r2:=Xc b c;have a1:=lO a b;have a2:=lO b c;have a3:=lO a c;have:=qo (a:=c) (b:=b) (c:=a) (by omega) (by omega);omega
end Ru
theorem N1 (a:Int):yW prog 225 [.int .i64 a] (.bool false):=by refine xY.xQ mixed func225 JG (by simp) λhf=>?_;simp only [simprocAttr,-ZA,↓zU,↓zD,zV,zT,zW];exact .same
theorem Jm (a b:Int):yW prog 185 [.int .i64 a,.int .i64 b] (.int .i64 (if a<b then -1 else if b<a then 1 else 0)):=by
 refine xY.xQ mixed func185 Io (by simp) λhf=>?_;simp only [simprocAttr,-ZA,↓zU,↓zD,zV,zT,zW];refine .go (cq (N1 a)) ?_;simp only [simprocAttr,-ZA,↓zU,↓zD,zV,zT,zW];refine .go (cq (N1 b)) ?_
 by_cases h1:a<b
 ·simp only [simprocAttr,-ZA,↓zU,↓zD,zV,zT,zW,h1];exact .same
 ·by_cases h2:b<a
  ·simp only [simprocAttr,-ZA,↓zU,↓zD,zV,zT,zW,h1,h2];exact .same
  ·simp only [simprocAttr,-ZA,↓zU,↓zD,zV,zT,zW,h1,h2];exact .same
theorem ZG (x:Int) (a:List Int):rH (x :: a) []=1:=rfl
theorem UJ (x y:Int) (a b:List Int):rH (x :: a) (y :: b)= if x<y then -1 else if y<x then 1 else rH a b:=rfl
theorem JT (x y:Int):yW prog 184 [.sl 1 (rows .i64 [x,y])] (.int .i64 (if x≠0 then x else y)):=by
 refine xY.xQ mixed func184 Im (by simp) λhf=>?_;simp only [simprocAttr,-ZA,↓zU,↓zD,zV,zT,zW]
 refine xO (λk:Nat=>[(8,.int .i64 k),(7,.int .i64 2),(6,.sl 1 (rows .i64 [x,y])),(3,.int .i64 0)]) (λ_=>⟨0,[]⟩) (λk=>k<=2/\(0<k->x=0)/\ (1<k->y=0)) (λk=>2-k) 0 ⟨by omega,by omega,by omega⟩ ?_ ?_
 ·(refine xT.same ?_; simp [xR,Fr.get,rows])
 intro k ⟨hk,h0,h1⟩;refine xL mixed ?_
 obtain rfl | rfl | rfl:k=0\/k=1\/k=2:=by omega
 ·by_cases e:x=0
  ·have e':(x != 0)= false:=by simpa using e
   simp only [simprocAttr,-ZA,↓zU,↓zD,zV,zT,zW,e']
   (repeat refine sd ?_)
   exact⟨1,⟨by omega,λ_=>e,by omega⟩,by(refine xT.same ?_; simp only [xR,Fr.get,simprocAttr,-ZA,zS]); rfl,by omega⟩
  ·have e':(x != 0)= true:=by simpa using e
   simp only [simprocAttr,-ZA,↓zU,↓zD,zV,zT,zW,e']
   (repeat refine sd ?_)
   rw [if_pos e];exact .same
 ·have e0:=h0 (by omega);have c1:((1:Nat):Int)= 1:=rfl
  by_cases e:y=0
  ·have e':(y != 0)= false:=by simpa using e
   simp only [simprocAttr,-ZA,↓zU,↓zD,zV,zT,zW,e',c1]
   (repeat refine sd ?_)
   exact⟨2,⟨by omega,λ_=>e0,λ_=>e⟩,by(refine xT.same ?_; simp only [xR,Fr.get,simprocAttr,-ZA,zS]); rfl,by omega⟩
  ·have e':(y != 0)= true:=by simpa using e
   simp only [simprocAttr,-ZA,↓zU,↓zD,zV,zT,zW,e',c1]
   (repeat refine sd ?_)
   rw [if_neg (by omega)];exact .same
 ·have e0:=h0 (by omega);have e1:=h1 (by omega);have c1:((2:Nat):Int)= 2:=rfl;simp only [simprocAttr,-ZA,↓zU,↓zD,zV,zT,zW,c1];rw [if_neg (by omega),e1];exact .same
end Go.Pd

/- Part X7. -/
namespace Go.Pd
open Go Go.Proofs Go.Shelf Go.Sort
variable [uC]
def uY (M:Nat->Prop) (w:World) (C:D->Prop):Type:={ p:Value × D // RP M w p.1 p.2/\p.1.oneCell'=true/\C p.2 }
theorem vh {α:Type} [Inhabited α] (nY:α->Value) (w:World) (nW off m:Nat) (d:Array α) (os:Array Obj) {b:Nat} (hb:b<w.heap.size) (hn:b≠nW):(sortWorld nY w nW off m d os).heap[b]?=w.heap[b]?:=by show (((Sort.ahead w m).heap.modify nW (onCells (putCells nY off d)))++ os)[b]?=_;rw [As (by simpa using hb),Av,if_neg (λe=>hn e.symm)];rfl
theorem nf {α:Type} [Inhabited α] (nY:α->Value) (w:World) (nW off m:Nat) (d:Array α) (os:Array Obj):w.heap.size<=(sortWorld nY w nW off m d os).heap.size:=by show w.heap.size<=(((Sort.ahead w m).heap.modify nW (onCells (putCells nY off d)))++ os).size;simp [Sort.ahead]
theorem y9 {α:Type} [Inhabited α] (nY:α->Value) (w:World) (nW off m:Nat) (d:Array α) (os:Array Obj) {cur:Array Value} {e:TypeId} {fr:Nat × Nat} (hc:w.heap[nW]?=some (Obj.cells cur e fr)) :
  sortWorld nY w nW off m d os=grow ((w.setRow nW (putCells nY off d cur)).drewN m) os:=by
 unfold sortWorld;congr 1;unfold putRow mapBlock Sort.ahead World.drewN World.setRow;congr 1;apply Aw;intro k;simp only [Av]
 by_cases hk:nW=k
 ·subst hk;simp only [if_true,hc,Option.map_some,onCells]
 ·simp [hk]
theorem ZF {w w':World} (h:Kept w w' λ_=>False):∃ q os,w'=grow (w.drewN q) os:=by
 refine⟨w'.drawn-w.drawn,w'.heap.extract w.heap.size w'.heap.size,?_⟩;have hd:=h.drawn;have hs:=h.size;obtain⟨heap,tape,drawn,os,output⟩:=w;obtain⟨heap',tape',drawn',os',output'⟩:=w';have h1:=h.os;have h2:=h.tape;have h3:=h.output;have h4:=h.block;simp only at h1 h2 h3 h4 hd hs;subst h1; subst h2; subst h3;unfold grow World.drewN;simp only [World.mk.injEq,and_true,true_and];refine⟨?_,by omega⟩;apply Aw;intro i
 by_cases hi:i<heap.size
 ·rw [As hi,h4 i hi id]
 ·rw [Array.getElem?_append_right (by omega),Array.getElem?_extract]
  by_cases h2:i<heap'.size
  ·rw [if_pos (by omega)];congr 1; omega
  ·rw [if_neg (by omega)];exact Array.getElem?_eq_none (by omega)
theorem UF {w:World} (q:Nat) (os:Array Obj):Kept w (grow (w.drewN q) os) λ_=>False:=by
 refine⟨rfl,rfl,rfl,by simp [World.drewN],λb hb _=>?_,λb cur e h=>⟨cur,?_,rfl⟩,by show w.drawn<=w.drawn+q; omega⟩
 ·show (w.heap++os)[b]?=_;rw [As hb]
 ·have hb:b<w.heap.size:=(Au.1 h).1;show (w.heap++os)[b]?=_;rw [As hb];exact h
def hd (e:List D):D:=e.getD 0 .top
def Ve (cf:D->D->Int) (xV:List (List D)):Prop:=∀ i j,i<j->j<xV.length->¬ cf (hd (xV.getD j [])) (hd (xV.getD i []))<0
def uY.nY {M:Nat->Prop} {w:World} {C:D->Prop} (a:uY M w C):Value:=a.1.1
def uY.dg {M:Nat->Prop} {w:World} {C:D->Prop} (a:uY M w C):D:=a.1.2
def uY.cf {M:Nat->Prop} {w:World} {C:D->Prop} (cf:D->D->Int) (a b:uY M w C):Int:=cf a.dg b.dg
theorem Wr {α:Type} [Inhabited α] {n:Nat} {p:Nat->α->Prop} (h:∀ i,i<n->∃ a,p i a):∃ d:Array α,d.size=n/\∀ i,i<n->p i d[i]!:=by obtain⟨f,hf⟩:=Deep.choose_lt h;refine⟨((List.range n).map f).toArray,by simp,λi hi=>?_⟩;rw [getElem!_pos _ i (by simpa using hi)];simpa using hf i hi
theorem wa {α:Type} (a:Array α):a.extract 0 a.size=a:=by simp
theorem Uy {P:Program} {g:FuncId} {C:D->Prop} {cf:D->D->Int} (hcmp:∀ x y,C x->C y->yW P g [x,y] (.int .i64 (cf x y))) {M0:Nat->Prop} {w:World} {σ:St} {ι:Nat->Nat} (hS:wY M0 w σ ι) {key:Nat} {ob:Ob} (hget:σ.get key=some ob) (size:Nat) [Inhabited (uY (yH M0 ι σ) w C)] :
  CmpLays1 P g #[] (uY.nY (M:=yH M0 ι σ) (w:=w) (C:=C)) (uY.cf cf) (ι key) 0 size w:=by
 intro m os dk hdk x y;have hne:∀ b,¬ yH M0 ι σ b->b≠ι key:=λb hb e=>hb (.inr ⟨key,ob,hget,e.symm⟩)
 have hM:∀ b,yH (yH M0 ι σ) ι gR b->yH M0 ι σ b:=by
  rintro b (h | ⟨k,o,hk,_⟩)
  ·exact h
  ·cases hk
 have hsz:=nf uY.nY w (ι key) 0 m dk os;have hblock:∀ b,b<w.heap.size->¬ yH M0 ι σ b->(sortWorld uY.nY w (ι key) 0 m dk os).heap[b]?=w.heap[b]?:=λb hb hn=>vh uY.nY w (ι key) 0 m dk os hb (hne b hn)
 have S1:wY (yH M0 ι σ) (sortWorld uY.nY w (ι key) 0 m dk os) gR ι:=⟨λb hb=>Ap (yH.lt hS hb) hsz,(λk o hk=>by cases hk),(λk k' o o' hk=>by cases hk),(λk o hk=>by cases hk),hS.pE.yJ hsz hblock λb _ hb=>hM b hb⟩
 have yJ:∀ z:uY (yH M0 ι σ) w C,RP (yH (yH M0 ι σ) ι gR) (sortWorld uY.nY w (ι key) 0 m dk os) z.nY z.dg:=λz=>z.2.1.yJ hblock λb _ hb=>hM b hb
 refine((hcmp x.dg y.dg x.2.2.2 y.2.2.2).run _ _ ι (#[x.nY,y.nY] ++ #[]) S1 rfl λj hj=>?_).mono λe w' hh=>?_
 ·match j,hj with
  | 0,_=>exact .pure (yJ x)
  | 1,_=>exact .pure (yJ y)
 ·obtain⟨v,ι',rfl,k1,k2,k3,k4,k5,k6⟩:=hh;have K0:Kept (sortWorld uY.nY w (ι key) 0 m dk os) w' λ_=>False:=k1.mono λb _ ⟨k,o,hk,_⟩=>by cases hk
  refine⟨?_,ZF K0⟩;rw [k6.zJ.1];rfl
set_option maxHeartbeats 1000000 in
theorem Rg {P:Program} {ρ:Ren} (L:SlLaysF.n6 P ρ) (hord:qX P (ρ.f 6)) {g:FuncId} {C:D->Prop} {cf:D->D->Int}
  (hg:qX P g) (hcmp:∀ x y,C x->C y->yW P g [x,y] (.int .i64 (cf x y)))
  (hirr:∀ x,C x->¬ cf x x<0) (htr:∀ x y z,C x->C y->C z->cf x y<0->cf y z<0->cf x z<0) (hntr:∀ x y z,C x->C y->C z->¬ cf x y<0->¬ cf y z<0->¬ cf x z<0)
  {σ:St} {key:Nat} {xV target:List (List D)} (hget:σ.get key=some ⟨1,xV⟩) (hels:∀ e ∈ xV,∃ d:D,e = [d]/\d.xD=true/\C d) (hlen:xV.length<4611686018427387904) (hne:xV ≠ [])
  (hT:∀ els',els'.Perm xV->Ve cf els'->els'=target) :
  xY P (ρ.f 6) [.yD key 1 xV.length,.fn g []] σ (.wE []) (σ.set key ⟨1,target⟩):=by
 refine⟨hord,λM0 w ι vals hS hl hv=>?_⟩;have h0:=hv 0 (by simp);have h1:=hv 1 (by simp);simp only [List.getD_cons_zero,List.getD_cons_succ] at h0 h1;obtain⟨cap,cur0,e0,e1,kk,a1,a2,a3,a4⟩:=h0.sL;obtain⟨cb,f1,f2,f3⟩:=h1.cJ;have hcb:cb = #[]:=Array.eq_empty_of_size_eq_zero (by simpa using f2);subst hcb
 have hvals:vals = #[.slice (some ⟨ι key,0,none⟩) xV.length cap,.func (.func g) #[] #[]]:=by
  obtain⟨l⟩:=vals
  match l,hl with
  | [x,y],_=> simp at e1 f1;rw [e1,f1]
 subst hvals;clear h0 h1 hv e1 f1 f2 f3 hl;have hk:=(hS.holds key _ hget).1;obtain⟨cur,e,c1,c2,c3,c4⟩:=yL.cells (hS.holds key _ hget).2 (Aj 0);simp only [Am] at c3
 have cell:∀ i,i<xV.length->∃ a:uY (yH M0 ι σ) w C,a.nY=cur.getD i undef/\xV.getD i [] = [a.dg]:=by
  intro i hi;have hm:xV.getD i [] ∈ xV:=by simp [List.getD,hi]
  obtain⟨d,hd,hp,hc⟩:=hels _ hm;have h:=c4 i hi 0 (Aj 0);simp only [Am,Ao] at h;rw [hd] at h;exact⟨⟨(cur.getD i undef,d),h.2.ub hp,h.1,hc⟩,rfl,hd⟩
 have hpos:0<xV.length:=Ad.2 hne;obtain⟨a0,_⟩:=cell 0 hpos
 haveI:Inhabited (uY (yH M0 ι σ) w C):=⟨a0⟩
 obtain⟨d,hds,hdi⟩:=Wr cell
 have hO:SWO (ltOf (uY.cf (M:=yH M0 ι σ) (w:=w) (C:=C) cf)):=by
  exact⟨λx=>decide_eq_false (hirr x.dg x.2.2.2),λx y z h1 h2=>decide_eq_true (htr x.dg y.dg z.dg x.2.2.2 y.2.2.2 z.2.2.2 (of_decide_eq_true h1) (of_decide_eq_true h2)),
   λx y z h1 h2=>decide_eq_false (hntr x.dg y.dg z.dg x.2.2.2 y.2.2.2 z.2.2.2 (of_decide_eq_false h1) (of_decide_eq_false h2))⟩
 have hH:Holds uY.nY w (ι key) 0 d:=by
  intro j hj;have hj':j<xV.length:=by omega
  have hjc:j<cur.size:=by omega
  refine⟨?_,?_⟩
  ·rw [(hdi j hj').1];simp [World.cell?,c1,Array.getD,hjc]
  ·simp [World.frozen?,c1]
 have hcall:=Any.slices_SortFunc L (uY.nY (M:=yH M0 ι σ) (w:=w) (C:=C)) (λx=>x.2.2.1) (uY.cf cf) hO g #[] (ι key) 0 cap d w (λargs w=>nM hg args w) (Uy hcmp hS hget d.size) hH (Au.1 c1).1 (by omega);rw [hds] at hcall;refine hcall.mono λe' w' hh=>?_;obtain⟨rfl,d',n,os,hp,hs,rfl⟩:=hh;rw [<- hds] at hp hs;have hsz:d'.size=d.size:=hp.1
 have e1:d.toList.map (λa=>[a.dg])= xV:=by refine η (by simpa using hds) λi h1 h2=>?_;have:=(hdi i h2).2;rw [getElem!_pos d i (by omega)] at this;simp only [ξ,Array.getElem_toList];simp only [List.getD,List.getElem?_eq_getElem h2,Option.getD_some] at this;exact this.symm
 have hperm:(d'.toList.map λa=>[a.dg]).Perm xV:=by
  rw [<- e1];have:=hp.2.2;rw [<- hsz] at this;conv at this=>lhs; rw [wa d']
  rw [hsz,wa d] at this;exact this.map _
 have hgd:∀ i,i<d'.size->hd ((d'.toList.map λa=>[a.dg]).getD i [])= (d'[i]!).dg:=by intro i hi;rw [getElem!_pos d' i hi];simp [hd,List.getD,hi]
 have hsort:Ve cf (d'.toList.map λa=>[a.dg]):=by
  intro i j hij hj;have hj':j<d'.size:=by simpa using hj
  rw [hgd j hj',hgd i (by omega)];have:=hs i j (Ah _) hij (by omega);exact of_decide_eq_false this
 have htarget:=hT _ hperm hsort;have htl:target.length=xV.length:=by rw [<- htarget]; exact hperm.length_eq
 rw [y9 _ _ _ _ _ _ _ c1];have hcs:(putCells uY.nY 0 d' cur).size=cur.size:=by simp [putCells]
 obtain⟨S2,K2⟩:=hS.set (ob':=⟨1,target⟩) hget c1 hcs (Aj 0) (by simp only [Am]; omega) ⟨λel he=>by
   rw [<- htarget] at he;simp only [ε] at he;obtain⟨a,_,rfl⟩:=he;rfl,λi hi j hj=>by
   have hj0:j=0:=by simp only at hj; omega
   subst hj0;simp only [Am,Ao];have hi':i<d'.size:=by simp only at hi; omega
   have hic:i<cur.size:=by omega
   have ev:(putCells uY.nY 0 d' cur).getD i undef=(d'[i]!).nY:=by simp [putCells,Array.getD,hic,hi']
   have ed:(target.getD i []).getD 0 .top=(d'[i]!).dg:=by rw [<- htarget]; exact hgd i hi'
   rw [ev,ed];exact⟨(d'[i]!).2.2.1,.pure (d'[i]!).2.1⟩⟩
 have K3:=UF (w:=w.setRow (ι key) (putCells uY.nY 0 d' cur)) n os;refine⟨.tuple #[],ι,rfl,K2.trans K3 (λ_ _ h=>h) (λ_ _ h=>h.elim),S2.ext K3,Ai _,λ_ _=>rfl,λk o hk=>?_,.wE rfl (λj hj=>by simp at hj)⟩
 by_cases ek:k=key
 ·subst ek; exact .inr ⟨k,_,hget,rfl⟩
 ·refine .inr ⟨k,o,?_,rfl⟩;rw [uI,if_neg (λe=>ek e.symm)] at hk;exact hk
end Go.Pd

/- Part SD. -/
set_option maxRecDepth 100000
namespace Go.Pd
open Go Go.Proofs Go.Shelf Go.Sort
open Ru
def Ka : D->Int
 | .int _ n=>n
 | _=>0
theorem yw {k:Nat} {o:Ob}:∀ {r:List (Nat × Ob)},St.look r k=some o->zA r k o=r
 | [],h=>by cases h
 | (j,o') :: r,h=>by
  rw [xX] at h;rw [pB]
  by_cases e:j=k
  ·rw [if_pos e] at h ⊢;injection h with h; rw [h]
  ·rw [if_neg e] at h ⊢;rw [yw h]
def r7 (l:List (List Int)):Prop:=l.Pairwise λa b=>¬ kc b a<0
def cO (l:List (List Int)):List (List Int):=l.mergeSort λa b=>decide (¬ kc b a<0)
theorem eF (l:List (List Int)):(cO l).Perm l:=List.mergeSort_perm l _
theorem Yi (a b:List Int):¬ kc b a<0\/¬ kc a b<0:=by have:=lO a b; omega
theorem XG (l:List (List Int)):r7 (cO l):=by have:=List.pairwise_mergeSort (le:=λa b:List Int=>decide (¬ kc b a<0)) (λa b c h1 h2=>by simp only [decide_eq_true_eq] at h1 h2 ⊢; exact eL h2 h1) (λa b=>by simp only [Bool.or_eq_true,decide_eq_true_eq]; exact Yi a b) l;unfold r7 cO;exact this.imp λh=>by simpa using h
theorem aq {a b:List Int} (h1:¬ kc b a<0) (h2:¬ kc a b<0):a=b:=uo (by have:=lO a b; omega)
theorem Vl {l m:List (List Int)} (hp:m.Perm l) (hm:r7 m):m=cO l:= List.Perm.eq_of_pairwise (le:=λa b=>¬ kc b a<0) (λx y _ _ h1 h2=>aq h1 h2) hm (XG l) (hp.trans (eF l).symm)
theorem LN {o:List (List Int)} (h:∀ a b,a<b->b<o.length->¬ kc (o.getD b []) (o.getD a [])<0):r7 o:=by unfold r7;rw [Aa];intro i j hi hj hij;have:=h i j hij hj;simpa [List.getD,hi,hj] using this
end Go.Pd

/- Part SE. -/
namespace Go.Pd
open Go Go.Proofs
open Ru
def below (m:List (List Int)) (x:List Int):Nat:=(m.filter λy=>decide (kc y x<0)).length
theorem qd {x:List Int}:∀ {m:List (List Int)} {i:Nat},i<=m.length->(∀ a,a<i->kc (m.getD a []) x<0)->(∀ a,i<=a->a<m.length->¬ kc (m.getD a []) x<0)->below m x=i
 | [],i,h,_,_=>by simp at h; simp [below,h]
 | y :: m,0,_,_,h2=>by have h0:=h2 0 (Ai _) (by simp);have ih:=qd (x:=x) (m:=m) (i:=0) (Ah _) (λa ha=>by omega) (λa _ ha=>by simpa using h2 (a+1) (by omega) (by simp; omega));unfold below at ih ⊢;rw [Af,if_neg (by simpa using h0),ih]
 | y :: m,i+1,hi,h1,h2=>by have h0:=h1 0 (by omega);have ih:=qd (x:=x) (m:=m) (i:=i) (by simpa using hi) (λa ha=>by simpa using h1 (a+1) (by omega)) (λa ha hb=>by simpa using h2 (a+1) (by omega) (by simp; omega));unfold below at ih ⊢;rw [Af,if_pos (by simpa using h0),χ,ih]
theorem Re {n:Nat} (h:n<=1000000):mg .u64 (n:Int) (ui 1#64)= ((n / 2:Nat):Int):=by unfold mg;have e:min (ui 1#64).toNat IntKind.u64.bits=1:=rfl;rw [e];show ((n:Int)).fdiv 2=_;rw [Int.fdiv_eq_ediv_of_nonneg _ (by decide)];omega
theorem SZ {m:List (List Int)} {x:List Int} (hm:r7 m) {a b:Nat} (hab:a<=b) (hb:b<m.length) (h:kc (m.getD b []) x<0):kc (m.getD a []) x<0:=by
 by_cases e:a=b
 ·rw [e]; exact h
 ·have hp:=Aa.1 hm a b (by omega) hb (by omega);have e1:m.getD a []=m[a]'(by omega):=by simp [List.getD,show a<m.length by omega]
  have e2:m.getD b []=m[b]:=by simp [List.getD,hb]
  rw [e1]; rw [e2] at h
  by_cases c:kc (m[a]'(by omega)) x<0
  ·exact c
  ·exact absurd h (eL hp c)
def uP (l:List (List Int)):Nat->List (List Int)
 | 0=>[]
 | k+1=>if 0<k/\l.getD k []=l.getD (k-1) [] then uP l k else uP l k ++ [l.getD k []]
def dedup (l:List (List Int)):List (List Int):=uP l l.length
theorem eH {l:List (List Int)}:∀ {k:Nat},k<=l.length->(∀ i,0<i->i<k->l.getD i []≠l.getD (i-1) [])->uP l k=l.take k
 | 0,_,_=>by simp [uP]
 | k+1,h,hn=>by rw [uP,if_neg (λc=>hn k c.1 (by omega) c.2),eH (by omega) (λi h1 h2=>hn i h1 (by omega)),<- vW (by omega)]
theorem Vq (l:List (List Int)):∀ k,(uP l k).length<=k
 | 0=>Ai _
 | k+1=>by
  have:=Vq l k;rw [uP]
  split
  ·omega
  ·rw [κ]; simp; omega
theorem Tx (l:List (List Int)) (k:Nat):(uP l k).length<=(uP l (k+1)).length:=by
 rw [uP]; split
 ·exact Ai _
 ·rw [κ]; omega
theorem gm (o:List (List Int)) (i j:Nat) (x:List Int):(o.set i x).getD j []=if i=j/\j<o.length then x else o.getD j []:=by
 simp only [List.getD,List.getElem?_set]
 split
 ·rename_i h; subst h; by_cases hj:i<o.length
  ·simp [hj]
  ·simp [hj]
 ·rename_i h; simp [h]
theorem XO (l:List (List Int)):∀ k,0<(uP l (k+1)).length
 | 0=>by rw [uP,if_neg (by omega),κ]; simp
 | k+1=>Ap (XO l k) (Tx l (k+1))
theorem ig {k:Nat} {o o':Ob}:∀ {r:List (Nat × Ob)},St.look r k=some o->St.look (zA r k o') k=some o'
 | [],h=>by cases h
 | (j,ob) :: r,h=>by
  rw [xX] at h;rw [pB]
  by_cases e:j=k
  ·rw [if_pos e,xX,if_pos e]
  ·rw [if_neg e] at h;rw [if_neg e,xX,if_neg e,ig h]
theorem yz (k:Nat) (a b:Ob):∀ r:List (Nat × Ob),zA (zA r k a) k b=zA r k b
 | []=>rfl
 | (j,ob) :: r=>by
  rw [pB,pB]
  by_cases e:j=k
  ·rw [if_pos e,if_pos e,pB,if_pos e]
  ·rw [if_neg e,if_neg e,pB,if_neg e,yz k a b r]
end Go.Pd

/- Part KF. -/
set_option maxRecDepth 100000
namespace Go.Pd
open Go Go.Proofs Go.Shelf Go.Sort
open BitVec renaming isValue -> ZA
open Ru
def pI (ll:List (List Int)):List (List D):=ll.map λl=>[.sl 1 (rows .u64 l)]
theorem tB (l:List (List Int)):(pI l).length=l.length:=by simp [pI]
theorem nR (l:List (List Int)) {i:Nat} (h:i<l.length):(pI l).getD i [] = [.sl 1 (rows .u64 (l.getD i []))]:=by simp [pI,List.getD,h]
theorem RO (l:List (List Int)) (n:Nat):(pI l).take n=pI (l.take n):=by simp [pI,List.map_take]
theorem RN (l:List (List Int)) (r:List Int):pI l ++ [[.sl 1 (rows .u64 r)]]=pI (l ++ [r]):=by simp [pI]
theorem WG : pI [] = []:=rfl
theorem rh (l:List (List Int)):∀ e ∈ pI l,D.xP e=true:=by intro e he;simp only [pI,ε] at he;obtain⟨r,_,rfl⟩:=he;have h:∀ e ∈ rows .u64 r,D.xP e=true:=qL _ r;have:(rows .u64 r).all D.xP=true:=List.all_eq_true.2 h;simp [D.xP,D.xD,this]
theorem Uf (l:List (List Int)):tK (pI l):=rh l
theorem So (a:Int):yW prog 256 [.int .u64 a] (.bool false):=by refine xY.xQ mixed func256 JO (by simp) λhf=>?_;simp only [simprocAttr,-ZA,↓zU,↓zD,zV,zT,zW];exact .same
theorem LR (a b:Int):yW prog 226 [.int .u64 a,.int .u64 b] (.int .i64 (if a<b then -1 else if b<a then 1 else 0)):=by
 refine xY.xQ mixed func226 JH (by simp) λhf=>?_;simp only [simprocAttr,-ZA,↓zU,↓zD,zV,zT,zW];refine .go (cq (So a)) ?_;simp only [simprocAttr,-ZA,↓zU,↓zD,zV,zT,zW];refine .go (cq (So b)) ?_
 by_cases h1:a<b
 ·simp only [simprocAttr,-ZA,↓zU,↓zD,zV,zT,zW,h1];exact .same
 ·by_cases h2:b<a
  ·simp only [simprocAttr,-ZA,↓zU,↓zD,zV,zT,zW,h1,h2];exact .same
  ·simp only [simprocAttr,-ZA,↓zU,↓zD,zV,zT,zW,h1,h2];exact .same
theorem Lf (a b:List Int):yW prog 186 [.sl 1 (rows .u64 a),.sl 1 (rows .u64 b)] (.int .i64 (rH a b)):=by
 refine xY.xQ mixed func186 Ip (by simp) λhf=>?_;simp only [D.rJ,D.fact,zK] at hf;have hlen:=hf.1.1;simp only [simprocAttr,-ZA,↓zU,↓zD,zV,zT,zW]
 refine xO (λk:Nat=>[(11,.int .i64 k),(10,.int .i64 a.length),(9,.sl 1 (rows .u64 a)),(1,.sl 1 (rows .u64 b)),(0,.sl 1 (rows .u64 a))]) (λ_=>⟨0,[]⟩) (λk=>k<=a.length/\k<=b.length/\rH a b=rH (a.drop k) (b.drop k)) (λk=>a.length-k) 0 ⟨Ah _,Ah _,rfl⟩ ?_ ?_
 ·(refine xT.same ?_; simp [xR,Fr.get])
 intro k ⟨hk,hk2,hi⟩;refine xL mixed ?_
 by_cases h:k<a.length
 ·have hd:((k:Int)<(a.length:Int)):=by omega
  have e1:a.drop k=a.getD k 0 :: a.drop (k+1):=by simp [List.getD,h]
  rw [e1] at hi
  by_cases h2:k<b.length
  ·have hd2:¬ ((b.length:Int)<=(k:Int)):=by omega
   have hd3:((k:Int)<(b.length:Int)):=by omega
   have e2:b.drop k=b.getD k 0 :: b.drop (k+1):=by simp [List.getD,h2]
   rw [e2,UJ] at hi;simp only [simprocAttr,-ZA,↓zU,↓zD,zV,zT,zW,hd,vI .u64 a h,hd2,hd3,vI .u64 b h2]
   (repeat refine sd ?_)
   refine .go (xY.zP (LR (a.getD k 0) (b.getD k 0)) rfl) ?_
   by_cases c1:a.getD k 0<b.getD k 0
   ·rw [if_pos c1] at hi ⊢;simp only [simprocAttr,-ZA,↓zU,↓zD,zV,zT,zW];rw [hi];exact .same
   ·by_cases c2:b.getD k 0<a.getD k 0
    ·rw [if_neg c1,if_pos c2] at hi ⊢;simp only [simprocAttr,-ZA,↓zU,↓zD,zV,zT,zW];rw [hi];exact .same
    ·rw [if_neg c1,if_neg c2] at hi ⊢;simp only [simprocAttr,-ZA,↓zU,↓zD,zV,zT,zW];refine⟨k+1,⟨by omega,by omega,hi⟩,?_,by omega⟩
     (refine xT.same ?_; simp only [xR,Fr.get,simprocAttr,-ZA,zS])
     exact wrap_i64 (by omega)
  ·have hd2:((b.length:Int)<=(k:Int)):=by omega
   rw [θ (show b.length<=k by omega),ZG] at hi;simp only [simprocAttr,-ZA,↓zU,↓zD,zV,zT,zW,hd,vI .u64 a h,hd2]
   (repeat refine sd ?_)
   rw [hi];exact .same
 ·have hd:¬ ((k:Int)<(a.length:Int)):=by omega
  rw [θ (show a.length<=k by omega),QR,List.length_drop] at hi
  by_cases c:a.length<b.length
  ·have c':(a.length:Int)<(b.length:Int):=by omega
   rw [if_neg (by omega)] at hi;simp only [simprocAttr,-ZA,↓zU,↓zD,zV,zT,zW,hd,c'];rw [hi];exact .same
  ·have c':¬ (a.length:Int)<(b.length:Int):=by omega
   rw [if_pos (by omega)] at hi;simp only [simprocAttr,-ZA,↓zU,↓zD,zV,zT,zW,hd,c'];rw [hi];exact .same
theorem XQ (a b:List Int):yW prog 74 [.sl 1 (rows .u64 a),.sl 1 (rows .u64 b)] (.bool (decide (a=b))):=by
 refine xY.xQ mixed func74 FF (by simp) λhf=>?_;simp only [D.rJ,D.fact,zK] at hf;have hlen:=hf.1.1;by_cases h1:a.length=b.length
 case neg=>
  have h1':((a.length:Int) != (b.length:Int))= true:=by simp; omega
  simp only [simprocAttr,-ZA,↓zU,↓zD,zV,zT,zW,h1'];exact .drop (by simp) (by simp only [vw,D.bool.injEq]; symm; apply decide_eq_false; rintro rfl; exact h1 rfl)
 have h1':((a.length:Int) != (b.length:Int))= false:=by simp; omega
 simp only [simprocAttr,-ZA,↓zU,↓zD,zV,zT,zW,h1']
 refine xO (λk:Nat=>[(13,.int .i64 k),(12,.int .i64 a.length),(1,.sl 1 (rows .u64 b)),(0,.sl 1 (rows .u64 a))]) (λ_=>⟨0,[]⟩) (λk=>k<=a.length/\∀ i,i<k->a.getD i 0=b.getD i 0) (λk=>a.length-k) 0 ⟨Ah _,λi hi=>by omega⟩ ?_ ?_
 ·(refine xT.same ?_; simp [xR,Fr.get])
 intro k ⟨hk,hi⟩;refine xL mixed ?_
 by_cases h:k<a.length
 ·have hd:((k:Int)<(a.length:Int)):=by omega
  by_cases hb:a.getD k 0=b.getD k 0
  ·have hb1:(a.getD k 0 != b.getD k 0)= false:=by simp only [hb,bne_self_eq_false]
   simp only [simprocAttr,-ZA,↓zU,↓zD,zV,zT,zW,hd,vI _ _ h,vI .u64 b (show k<b.length by omega),hb1]
   (repeat refine sd ?_)
   refine⟨k+1,⟨by omega,λi hi2=>?_⟩,?_,by omega⟩
   ·by_cases ei:i=k
    ·rw [ei,hb]
    ·exact hi i (by omega)
   (refine xT.same ?_; simp only [xR,Fr.get,simprocAttr,-ZA,zS])
   exact wrap_i64 (by omega)
  ·have hb1:(a.getD k 0 != b.getD k 0)= true:=bne_iff_ne.2 hb;simp only [simprocAttr,-ZA,↓zU,↓zD,zV,zT,zW,hd,vI _ _ h,vI .u64 b (show k<b.length by omega),hb1]
   (repeat refine sd ?_)
   exact .drop (by simp) (by simp only [vw,D.bool.injEq]; symm; apply decide_eq_false; rintro rfl; exact hb rfl)
 ·have hd:¬ ((k:Int)<(a.length:Int)):=by omega
  have hk':k=a.length:=by omega
  subst hk';simp only [simprocAttr,-ZA,↓zU,↓zD,zV,zT,zW,hd];refine .drop (by simp) ?_;simp only [vw,D.bool.injEq]; symm; apply decide_eq_true;refine η h1 λi h2 h3=>?_;have:=hi i h2;simpa [List.getD,h2,h3] using this
theorem bZ (a b:List Int):yW prog 124 [.sl 1 (rows .u64 a),.sl 1 (rows .u64 b)] (.int .i64 (kc a b)):=by
 have h1:=Jm (a.length:Int) (b.length:Int);have h2:=Lf a b;have h3:=JT (if (a.length:Int)<(b.length:Int) then -1 else if (b.length:Int)<(a.length:Int) then 1 else 0) (rH a b)
 have e:(if (if (a.length:Int)<(b.length:Int) then(-1:Int) else if (b.length:Int)<(a.length:Int) then 1 else 0)≠ 0 then(if (a.length:Int)<(b.length:Int) then(-1:Int) else if (b.length:Int)<(a.length:Int) then 1 else 0) else rH a b)= kc a b:=by
  unfold kc
  by_cases c1:a.length<b.length
  ·rw [if_pos (show (a.length:Int)<b.length by omega),if_pos c1]; rfl
  ·rw [if_neg (show ¬ (a.length:Int)<b.length by omega),if_neg c1]
   by_cases c2:b.length<a.length
   ·rw [if_pos (show (b.length:Int)<a.length by omega),if_pos c2]; rfl
   ·rw [if_neg (show ¬ (b.length:Int)<a.length by omega),if_neg c2]; rfl
 rw [e] at h3;simp only [yu,jZ] at h3;generalize (if (a.length:Int)<(b.length:Int) then(-1:Int) else if (b.length:Int)<(a.length:Int) then 1 else 0)= z at h1 h3;refine xY.xQ mixed func124 Hy (by simp) λhf=>?_;simp only [simprocAttr,-ZA,↓zU,↓zD,zV,zT,zW];refine .go (cq h1) ?_;simp only [simprocAttr,-ZA,↓zU,↓zD,zV,zT,zW];refine .go (cr h2) ?_;simp only [simprocAttr,-ZA,↓zU,↓zD,zV,zT,zW];refine⟨by simp [D.xP,D.xD],?_⟩;refine .go (cr h3) ?_;simp only [simprocAttr,-ZA,↓zU,↓zD,zV,zT,zW];exact .same
theorem Sm (a b:List Int):yW prog 129 [.sl 1 (rows .u64 a),.sl 1 (rows .u64 b)] (.bool (decide (a=b))):=by refine xY.xQ mixed func129 I0 (by simp) λhf=>?_;simp only [simprocAttr,-ZA,↓zU,↓zD,zV,zT,zW];refine .go (cr (XQ a b)) ?_;simp only [simprocAttr,-ZA,↓zU,↓zD,zV,zT,zW];exact .same
theorem Up (l:List Int):(rows .u64 l).map (λe=>Ka (hd e))= l:=by
 unfold rows;rw [Ab];conv=>rhs; rw [<- Ac l]
 exact δ λx _=>rfl
def b9 : Go.Shelf.Ren where
 f:=λx=>match x with | 6=>127 | 15=>189 | 14=>188 | 28=>235 | 29=>236 | 20=>227 | 21=>228 | 22=>229 | 23=>230 | 24=>231 | 25=>232 | 26=>233 | 27=>234 | 46=>257 | 47=>258 | 48=>259 | 49=>260 | 50=>261 | 57=>273 | n=>n
 t:=λx=>match x with | 22=>51 | 24=>22 | 25=>49 | 39=>88 | 53=>248 | 55=>56 | 46=>242 | 45=>241 | 50=>129 | 66=>268 | 70=>272 | 76=>280 | 77=>281 | n=>n
 g:=λx=>x
theorem UG : SlLaysF.n6 prog b9 where
 mixed:=by kernel_rfl
 f6:=⟨ "slices.SortFunc[[][]uint64,[]uint64]",by decide,func127.trans (congrArg some (by kernel_rfl))⟩
 f14:=⟨ "slices.pdqsortCmpFunc[[]uint64]",by decide,func188.trans (congrArg some (by kernel_rfl))⟩
 f15:=func189.trans (congrArg some (by kernel_rfl))
 f20:=⟨ "slices.insertionSortCmpFunc[[]uint64]",by decide,func227.trans (congrArg some (by kernel_rfl))⟩
 f21:=⟨ "slices.heapSortCmpFunc[[]uint64]",by decide,func228.trans (congrArg some (by kernel_rfl))⟩
 f22:=⟨ "slices.breakPatternsCmpFunc[[]uint64]",by decide,func229.trans (congrArg some (by kernel_rfl))⟩
 f23:=⟨ "slices.choosePivotCmpFunc[[]uint64]",by decide,func230.trans (congrArg some (by kernel_rfl))⟩
 f24:=⟨ "slices.reverseRangeCmpFunc[[]uint64]",by decide,func231.trans (congrArg some (by kernel_rfl))⟩
 f25:=⟨ "slices.partialInsertionSortCmpFunc[[]uint64]",by decide,func232.trans (congrArg some (by kernel_rfl))⟩
 f26:=⟨ "slices.partitionEqualCmpFunc[[]uint64]",by decide,func233.trans (congrArg some (by kernel_rfl))⟩
 f27:=⟨ "slices.partitionCmpFunc[[]uint64]",by decide,func234.trans (congrArg some (by kernel_rfl))⟩
 f28:=func235.trans (congrArg some (by kernel_rfl))
 f29:=func236.trans (congrArg some (by kernel_rfl))
 f46:=⟨ "slices.siftDownCmpFunc[[]uint64]",by decide,func257.trans (congrArg some (by kernel_rfl))⟩
 f47:=func258.trans (congrArg some (by kernel_rfl))
 f48:=func259.trans (congrArg some (by kernel_rfl))
 f49:=⟨ "slices.medianAdjacentCmpFunc[[]uint64]",by decide,func260.trans (congrArg some (by kernel_rfl))⟩
 f50:=⟨ "slices.medianCmpFunc[[]uint64]",by decide,func261.trans (congrArg some (by kernel_rfl))⟩
 f57:=⟨ "slices.order2CmpFunc[[]uint64]",by decide,func273.trans (congrArg some (by kernel_rfl))⟩
 t0:=Tryz.underlying0
 a0:=Tryz.isAgg0
 z0:=Tryz.sizeOf0
 v0:=Tryz.zeroValue0
 t3:=Tryz.underlying3
 a3:=Tryz.isAgg3
 z3:=Tryz.sizeOf3
 v3:=Tryz.zeroValue3
 t4:=Tryz.underlying4
 a4:=Tryz.isAgg4
 z4:=Tryz.sizeOf4
 v4:=Tryz.zeroValue4
 t5:=Tryz.underlying5
 a5:=Tryz.isAgg5
 z5:=Tryz.sizeOf5
 v5:=Tryz.zeroValue5
 t9:=Tryz.underlying9
 a9:=Tryz.isAgg9
 z9:=Tryz.sizeOf9
 v9:=Tryz.zeroValue9
 t22:=Tryz.underlying51
 a22:=Tryz.isAgg51
 z22:=Tryz.sizeOf51
 v22:=Tryz.zeroValue51
 a24:=Tryz.isAgg22
 z24:=Tryz.sizeOf22
 t25:=Tryz.underlying49
 a25:=Tryz.isAgg49
 z25:=Tryz.sizeOf49
 v25:=Tryz.zeroValue49
 t39:=Tryz.underlying88
 a39:=Tryz.isAgg88
 z39:=Tryz.sizeOf88
 v39:=Tryz.zeroValue88
 t45:=Tryz.underlying241
 a45:=Tryz.isAgg241
 z45:=Tryz.sizeOf241
 v45:=Tryz.zeroValue241
 t46:=Tryz.underlying242
 a46:=Tryz.isAgg242
 z46:=Tryz.sizeOf242
 v46:=Tryz.zeroValue242
 t50:=Tryz.underlying129
 a50:=Tryz.isAgg129
 z50:=Tryz.sizeOf129
 v50:=Tryz.zeroValue129
 t53:=Tryz.underlying248
 a53:=Tryz.isAgg248
 z53:=Tryz.sizeOf248
 v53:=Tryz.zeroValue248
 t55:=Tryz.underlying56
 a55:=Tryz.isAgg56
 z55:=Tryz.sizeOf56
 v55:=Tryz.zeroValue56
 t66:=Tryz.underlying268
 a66:=Tryz.isAgg268
 z66:=Tryz.sizeOf268
 v66:=Tryz.zeroValue268
 t70:=Tryz.underlying272
 a70:=Tryz.isAgg272
 z70:=Tryz.sizeOf272
 v70:=Tryz.zeroValue272
 t76:=Tryz.underlying280
 a76:=Tryz.isAgg280
 z76:=Tryz.sizeOf280
 v76:=Tryz.zeroValue280
 t77:=Tryz.underlying281
 a77:=Tryz.isAgg281
 z77:=Tryz.sizeOf281
 v77:=Tryz.zeroValue281
def kV : D->List Int
 | .sl _ xV=>xV.map λe=>Ka (hd e)
 | _=>[]
theorem jN (l:List Int):kV (.sl 1 (rows .u64 l))= l:=Up l
theorem RM {l:List (List Int)} {xV:List (List D)} (h:xV.Perm (pI l)):∃ m:List (List Int),xV=pI m/\m.Perm l:=by
 refine⟨xV.map λe=>kV (hd e),?_,?_⟩
 ·unfold pI;rw [Ab];conv=>lhs; rw [<- Ac xV]
  refine δ λe he=>?_;have:=h.mem_iff.1 he;simp only [pI,ε] at this;obtain⟨n,_,rfl⟩:=this;show [D.sl 1 (rows .u64 n)] = [D.sl 1 (rows .u64 (kV (.sl 1 (rows .u64 n))))];rw [jN]
 ·have:=h.map λe=>kV (hd e)
  have e:(pI l).map (λe=>kV (hd e))= l:=by
   unfold pI;rw [Ab];conv=>rhs; rw [<- Ac l]
   exact δ λx _=>jN x
  rw [e] at this;exact this
theorem Si {l:List (List Int)} {i:Nat} (h:i<l.length):kV (hd ((pI l).getD i []))= l.getD i []:=by rw [nR _ h]; exact jN _
theorem Yr {σ:St} {key:Nat} {l:List (List Int)} (hget:σ.get key=some ⟨1,pI l⟩) (hne:l ≠ []) (hlen:l.length<=1000) :
  xY prog 127 [.yD key 1 l.length,.fn 124 []] σ (.wE []) (σ.set key ⟨1,pI (cO l)⟩):=by
 have ho:qX prog 127:=⟨_,func127,by kernel_rfl,by kernel_rfl⟩;have ho2:qX prog 124:=⟨_,func124,by kernel_rfl,by kernel_rfl⟩
 have h:=Rg (P:=prog) (ρ:=b9) UG ho (g:=124) (C:=λd=>∃ l:List Int,d = .sl 1 (rows .u64 l)) (cf:=λx y=>kc (kV x) (kV y)) ho2
  (by rintro x y ⟨a,rfl⟩ ⟨b,rfl⟩; rw [jN,jN]; exact bZ a b) (by intro x _; rw [Vy]; omega) (by intro x y z _ _ _ h1 h2; exact qo h1 h2) (by intro x y z _ _ _ h1 h2; exact eL h1 h2)
  hget (target:=pI (cO l)) (by
   intro e he;have hp:=rh l e he;simp only [pI,ε] at he;obtain⟨n,hn,rfl⟩:=he;exact⟨_,rfl,by simpa [D.xP] using hp,n,rfl⟩) (by rw [tB]; omega) (by intro c; apply hne; simpa [pI] using c) (by
   intro els' hp hs;obtain⟨m,rfl,hm⟩:=RM hp;rw [Vl hm (LN λa b hab hb=>?_)];have:=hs a b hab (by rw [tB]; exact hb);change ¬ kc (kV _) (kV _)<0 at this;rw [Si hb,Si (show a<m.length by omega)] at this;exact this)
 rw [tB] at h;exact h
theorem Uu {m:List (List Int)} (x:List Int) (hm:r7 m) (hl:m.length<=1000):∃ b:Bool,yW prog 123 [.sl 1 (pI m),.sl 1 (rows .u64 x),.fn 124 []] (.wE [.int .i64 (below m x),.bool b]):=by
 refine⟨decide (below m x<m.length)&& decide (kc (m.getD (below m x) []) x=0),?_⟩;refine xY.xQ mixed func123 Hz (by simp) λhf=>?_;simp only [simprocAttr,-ZA,↓zU,↓zD,zV,zT,zW,tB]
 refine xO (λa:Nat × Nat=>[(10,.int .i64 a.2),(9,.int .i64 a.1),(8,.int .i64 m.length),(2,.fn 124 []),(1,.sl 1 (rows .u64 x)),(0,.sl 1 (pI m))]) (λ_=>⟨0,[]⟩) (λa=>a.1<=a.2/\a.2<=m.length/\(∀ i,i<a.1->kc (m.getD i []) x<0)/\ (∀ i,a.2<=i->i<m.length->¬ kc (m.getD i []) x<0)) (λa=>a.2-a.1) (0,m.length) ⟨Ah _,Ai _,λi hi=>by omega,λi h1 h2=>by omega⟩ ?_ ?_
 ·(refine xT.same ?_; simp [xR,Fr.get])
 intro ⟨lo,hi⟩ ⟨h1,h2,h3,h4⟩;simp only at h1 h2 h3 h4;refine xL mixed ?_
 by_cases h:lo<hi
 ·have hd:((lo:Int)<(hi:Int)):=by omega
  have es:IntKind.i64.wrap ((lo:Int)+ (hi:Int))= ((lo+hi:Nat):Int):=by rw [wrap_i64 (by omega)]; omega
  have ew:IntKind.i64.wrap (((lo+hi)/ 2:Nat):Int)= (((lo+hi)/ 2:Nat):Int):=wrap_i64 (by omega);have hmid:(lo+hi)/ 2<m.length:=by omega
  simp only [simprocAttr,-ZA,↓zU,↓zD,zV,zT,zW,hd,es,T4 (show lo+hi<=1000000 by omega),Re (show lo+hi<=1000000 by omega),ew,tB,nR m hmid]
  (repeat refine sd ?_)
  refine .go (xY.zP (bZ (m.getD ((lo+hi)/ 2) []) x) (by simp [D.xP,D.xD])) ?_
  by_cases c:kc (m.getD ((lo+hi)/ 2) []) x<0
  ·simp only [simprocAttr,-ZA,↓zU,↓zD,zV,zT,zW,c];refine⟨((lo+hi)/ 2+1,hi),⟨by show (lo+hi)/ 2+1<=hi; omega,h2,λi hi2=>SZ hm (show i<=(lo+hi)/ 2 by change i<(lo+hi)/ 2+1 at hi2; omega) hmid c,h4⟩,?_,by show hi-((lo+hi)/ 2+1)<hi-lo; omega⟩
   (refine xT.same ?_; simp only [xR,Fr.get,simprocAttr,-ZA,zS])
   exact wrap_i64 (by omega)
  ·simp only [simprocAttr,-ZA,↓zU,↓zD,zV,zT,zW,c];refine⟨(lo,(lo+hi)/ 2),⟨by show lo<=(lo+hi)/ 2; omega,by show (lo+hi)/ 2<=m.length; omega,h3,λi hi2 hi3 hc=>c (SZ hm hi2 hi3 hc)⟩,?_,by show (lo+hi)/ 2-lo<hi-lo; omega⟩
   (refine xT.same ?_; simp only [xR,Fr.get,simprocAttr,-ZA,zS])
 ·have hd:¬ ((lo:Int)<(hi:Int)):=by omega
  have e:below m x=lo:=qd (by omega) h3 λa ha hb=>h4 a (by omega) hb;rw [e]
  by_cases hlen:lo<m.length
  ·have hd2:((lo:Int)<(m.length:Int)):=by omega
   simp only [simprocAttr,-ZA,↓zU,↓zD,zV,zT,zW,hd,hd2,tB,nR m hlen]
   (repeat refine sd ?_)
   refine .go (xY.zP (bZ (m.getD lo []) x) (by simp [D.xP,D.xD])) ?_;simp only [simprocAttr,-ZA,↓zU,↓zD,zV,zT,zW];exact .drop (by simp) (by simp only [vw,uR,and_true,D.bool.injEq,true_and,χ,List.length_nil,decide_eq_true hlen,Bool.true_and]; rfl)
  ·have hd2:¬ ((lo:Int)<(m.length:Int)):=by omega
   simp only [simprocAttr,-ZA,↓zU,↓zD,zV,zT,zW,hd,hd2];exact .drop (by simp) (by simp only [vw,uR,and_true,D.bool.injEq,true_and,χ,List.length_nil,decide_eq_false hlen,Bool.false_and])
theorem Oq (l:List (List Int)) (i:Nat) (x:List Int):(pI l).set i [.sl 1 (rows .u64 x)]=pI (l.set i x):=by simp [pI,List.map_set]
def YD (l:List (List Int)):List (List D):=pI (dedup l)++ List.replicate (l.length-(dedup l).length) [.xJ]
theorem Z1 {σ:St} {key:Nat} {l:List (List Int)} (hget:σ.get key=some ⟨1,pI l⟩) (hlen:l.length<=1000) (hne:l ≠ []) :
  xY prog 128 [.yD key 1 l.length,.fn 129 []] σ (.yD key 1 (dedup l).length) (σ.set key ⟨1,YD l⟩):=by
 obtain⟨nx,xZ⟩:=σ;have hpos:0<l.length:=Ad.2 hne;have hg:St.look xZ key=some ⟨1,pI l⟩:=hget
 have whole:dedup l=l->(.yD key 1 (dedup l).length=D.yD key 1 l.length/\(⟨nx,zA xZ key ⟨1,YD l⟩⟩:St)= ⟨nx,xZ⟩):=by
  intro e;refine⟨by rw [e],?_⟩;have:YD l=pI l:=by unfold YD; rw [e]; simp
  rw [this,yw hg]
 refine xY.xQ mixed func128 Hx (by simp) λhf=>?_
 by_cases h2:l.length<2
 ·have hd:(l.length:Int)<2:=by omega
  simp only [simprocAttr,-ZA,↓zU,↓zD,zV,zT,zW,hd]
  have e:dedup l=l:=by unfold dedup;rw [eH (Ai _) (λi h1 h3=>by omega),Ae]
  obtain⟨e1,e2⟩:=whole e;exact .inl ⟨e1,e2⟩
 have hd:¬ (l.length:Int)<2:=by omega
 simp only [simprocAttr,-ZA,↓zU,↓zD,zV,zT,zW,hd]
 refine xO (λk:Nat=>[(5,.int .i64 k),(1,.fn 129 []),(0,.yD key 1 l.length)]) (λ_=>⟨nx,xZ⟩) (λk=>1<=k/\k<=l.length/\∀ i,0<i->i<k->l.getD i []≠l.getD (i-1) []) (λk=>l.length-k) 1 ⟨Ai _,by omega,λi h1 h2=>by omega⟩ ?_ ?_
 ·(refine xT.same ?_; simp [xR,Fr.get])
 intro i0 ⟨hi1,hi2,hi3⟩;refine xL mixed ?_;by_cases h:i0<l.length
 case neg=>
  have hd:¬ ((i0:Int)<(l.length:Int)):=by omega
  have e:dedup l=l:=by unfold dedup;rw [eH (Ai _) (λi h1 h3=>hi3 i h1 (by omega)),Ae]
  obtain⟨e1,e2⟩:=whole e;simp only [simprocAttr,-ZA,↓zU,↓zD,zV,zT,zW,hd];exact .inl ⟨e1,e2⟩
 have hd:((i0:Int)<(l.length:Int)):=by omega
 have em:IntKind.i64.wrap ((i0:Int)-1)= ((i0-1:Nat):Int):=by rw [wrap_i64 (by omega)]; omega
 simp only [simprocAttr,-ZA,↓zU,↓zD,zV,zT,zW,hd,hg,nR l h,em,tB,nR l (show i0-1<l.length by omega)]
 (repeat refine sd ?_)
 refine .go (xY.zP (Sm (l.getD i0 []) (l.getD (i0-1) [])) (by simp [D.xP,D.xD])) ?_;by_cases hq:l.getD i0 []=l.getD (i0-1) []
 case neg=>
  simp only [simprocAttr,-ZA,↓zU,↓zD,zV,zT,zW,decide_eq_false hq]
  refine⟨i0+1,⟨by omega,by omega,λi h1 h3=>?_⟩,?_,by omega⟩
  ·by_cases e:i=i0
   ·rw [e]; exact hq
   ·exact hi3 i h1 (by omega)
  (refine xT.same ?_; simp only [xR,Fr.get,simprocAttr,-ZA,zS])
  exact wrap_i64 (by omega)
 simp only [simprocAttr,-ZA,↓zU,↓zD,zV,zT,zW,decide_eq_true hq];have ei:¬ (i0:Int)= 0:=by omega
 have ei2:¬ (i0:Int)= (l.length:Int):=by omega
 refine⟨i0,l.length,rfl,rfl,by omega,by omega,by omega,?_⟩;simp only [Aq,if_neg ei,if_neg ei2];have d1:uP l (i0+1)= l.take i0:=by rw [uP,if_pos ⟨by omega,hq⟩,eH (by omega) hi3]
 refine xO (λa:Nat × List (List Int)=>[(7,.int .i64 a.1),(6,.sub key 1 i0 (l.length-i0)),(5,.int .i64 (uP l (i0+a.1)).length),(1,.fn 129 []),(0,.yD key 1 l.length)]) (λa=>⟨nx,zA xZ key ⟨1,pI a.2⟩⟩)
  (λa=>1<=a.1/\i0+a.1<=l.length/\a.2.length=l.length/\(uP l (i0+a.1)).length<i0+a.1/\a.2.take (uP l (i0+a.1)).length=uP l (i0+a.1)/\ ∀ j,i0+a.1-1<=j->a.2.getD j []=l.getD j []) (λa=>l.length-a.1) (1,l)
  ⟨Ai _,by omega,rfl,by rw [d1,υ]; omega,by rw [d1,υ,Nat.min_eq_left (by omega)],λj _=>rfl⟩ ?_ ?_
 ·rw [yw hg]
  (refine xT.same ?_; simp [xR,Fr.get,d1])
  omega
 intro ⟨q,o⟩ ⟨q1,q2,q3,q4,q5,q6⟩;simp only at q1 q2 q3 q4 q5 q6;have hlk:∀ ob:Ob,St.look (zA xZ key ob) key=some ob:=λob=>ig hg;refine xL mixed ?_
 by_cases hp:i0+q<l.length
 ·have hd3:((q:Int)<((l.length-i0:Nat):Int)):=by omega
  have eq1:IntKind.i64.wrap ((q:Int)-1)= ((q-1:Nat):Int):=by rw [wrap_i64 (by omega)]; omega
  simp only [simprocAttr,-ZA,↓zU,↓zD,zV,zT,zW,hd3,hlk,eq1,tB,nR o (show i0+q<o.length by omega),nR o (show i0+(q-1)<o.length by omega)]
  (repeat refine sd ?_)
  refine .go (xY.zP (Sm (o.getD (i0+q) []) (o.getD (i0+(q-1)) [])) (by simp [D.xP,D.xD])) ?_;have a1:o.getD (i0+q) []=l.getD (i0+q) []:=q6 _ (by omega);have a2:o.getD (i0+(q-1)) []=l.getD (i0+q-1) []:=by rw [q6 _ (by omega)]; congr 1; omega
  rw [a1,a2]
  by_cases hq2:l.getD (i0+q) []=l.getD (i0+q-1) []
  ·have dd:uP l (i0+(q+1))= uP l (i0+q):=by show uP l ((i0+q)+ 1)= _;rw [uP,if_pos ⟨by omega,hq2⟩]
   simp only [simprocAttr,-ZA,↓zU,↓zD,zV,zT,zW,decide_eq_true hq2];refine⟨(q+1,o),⟨by show 1<=q+1; omega,by show i0+(q+1)<=l.length; omega,q3,by show (uP l (i0+(q+1))).length<i0+(q+1); rw [dd]; omega,by show o.take (uP l (i0+(q+1))).length=uP l (i0+(q+1)); rw [dd,q5],λj hj=>q6 j (by change i0+(q+1)-1<=j at hj; omega)⟩,?_,by show l.length-(q+1)<l.length-q; omega⟩
   (refine xT.same ?_; simp only [xR,Fr.get,simprocAttr,-ZA,zS,dd])
   exact wrap_i64 (by omega)
  ·have dd:uP l (i0+(q+1))= uP l (i0+q)++ [l.getD (i0+q) []]:=by show uP l ((i0+q)+ 1)= _;rw [uP,if_neg (λc=>hq2 c.2)]
   have dl:(uP l (i0+(q+1))).length=(uP l (i0+q)).length+1:=by rw [dd,κ]; rfl
   simp only [simprocAttr,-ZA,↓zU,↓zD,zV,zT,zW,decide_eq_false hq2,hlk,tB,nR o (show i0+q<o.length by omega),a1]
   (repeat refine sd ?_)
   have c1:(uP l (i0+q)).length<o.length:=by omega
   have eset:(pI o).set (uP l (i0+q)).length (((pI o).getD (uP l (i0+q)).length []).set 0 (D.sl 1 (rows .u64 (l.getD (i0+q) []))))= pI (o.set (uP l (i0+q)).length (l.getD (i0+q) [])):=by rw [nR o c1];exact Oq _ _ _
   refine⟨(q+1,o.set (uP l (i0+q)).length (l.getD (i0+q) [])),⟨by show 1<=q+1; omega,by show i0+(q+1)<=l.length; omega,by show (o.set _ _).length=_; rw [List.length_set]; exact q3,by show (uP l (i0+(q+1))).length<i0+(q+1); omega,?_,λj hj=>?_⟩,?_,by show l.length-(q+1)<l.length-q; omega⟩
   ·show (o.set (uP l (i0+q)).length (l.getD (i0+q) [])).take (uP l (i0+(q+1))).length=_;rw [dl,vW (d:=[]) (by rw [List.length_set]; exact c1),gm,if_pos ⟨rfl,c1⟩,dd,List.take_set_of_le (Ai _),q5]
   ·change i0+(q+1)-1<=j at hj;show (o.set (uP l (i0+q)).length (l.getD (i0+q) [])).getD j []=_;rw [gm,if_neg (by omega)];exact q6 j (by omega)
   ·simp only [yz,eset]
    (refine xT.same ?_; simp only [xR,Fr.get,simprocAttr,-ZA,zS,dl])
    exact⟨wrap_i64 (by omega),wrap_i64 (by omega)⟩
 ·have hd3:¬ ((q:Int)<((l.length-i0:Nat):Int)):=by omega
  have ed:uP l (i0+q)= dedup l:=by unfold dedup; rw [show i0+q=l.length by omega]
  have c0:0<(dedup l).length:=by have:=XO l (l.length-1);rw [show l.length-1+1=l.length by omega] at this;exact this
  rw [ed] at q4 q5;simp only [simprocAttr,-ZA,↓zU,↓zD,zV,zT,zW,hd3,ed];refine⟨(dedup l).length,l.length,rfl,rfl,by omega,by omega,by omega,?_⟩;rw [if_neg (show ¬ ((dedup l).length:Int)= 0 by omega),if_neg (show ¬ ((dedup l).length:Int)= (l.length:Int) by omega)];simp only [Aq,hlk,tB,true_and];refine⟨by omega,by omega,?_⟩;refine⟨0,(dedup l).length,rfl,rfl,by omega,by omega,by omega,?_⟩;rw [if_pos rfl];refine .inl ⟨by rw [Aq],?_⟩;have e2:(pI o).take (dedup l).length=pI (dedup l):=by rw [RO,q5]
  have e3:(pI o).drop ((dedup l).length+(l.length-(dedup l).length))= []:=θ (by rw [tB]; omega)
  have e4:YD l=(pI o).take (dedup l).length++(List.replicate (l.length-(dedup l).length) [D.xJ]++(pI o).drop ((dedup l).length+(l.length-(dedup l).length))):=by rw [e2,e3,List.append_nil]; rfl
  rw [e4];simp only [yz]
theorem vc (l:List (BitVec 64)):us l=rows .u64 (l.map ui):=by simp [us,rows]
end Go.Pd

/- Part KG. -/
namespace Go.Pd
open Go Go.Proofs
open BitVec renaming isValue -> ZA
open Rs Fm Ru Kb
namespace Kb
def tN (xN st:List (BitVec 64)) (a t:Nat):List (BitVec 64):=(st.take (t+1)).map λs=>s &&& xN.getD a 0
theorem qn {xN st:List (BitVec 64)} {a t:Nat} (h:t<st.length):(tN xN st a t).length=t+1:=by simp [tN]; omega
theorem Nt {xN st:List (BitVec 64)} {a t:Nat} (h:t<st.length):tN xN st a t ≠ []:=λc=>by have:=qn (xN:=xN) (a:=a) h;rw [c] at this; cases this
def Pb (p:yF) (sts:List (List (BitVec 64))):List D:=[.int .i64 p.F,.sl 1 (us p.init),.sl 1 (us p.xN),.sl 1 (qY p.xM),.sl 1 (qZ p.code),.sl 1 (rr sts)]
def vr (p:yF) (sts:List (List (BitVec 64))):D:=.ptr (Pb p sts)
end Kb
theorem yj {g:FuncId} {args:List D} {l:List (BitVec 64)} (h:xY prog g args gR (.yD 0 1 l.length) ⟨1,[(0,⟨1,us l⟩)]⟩):yW prog g args (.sl 1 (us l)):= xY.ret h (.drop (Ah _) (Xr (by decide) (oS l) (xH l).symm))
theorem zt (p:yF) {sts:List (List (BitVec 64))} {a r t:Nat} (ha:a<p.xN.length) (hr:r<sts.length) (ht:t<(sts.getD r []).length) (hl:t<=1000) :
  xY prog 75 [vr p sts,.int .i64 a,.int .i64 r,.int .i64 t] gR (.yD 0 1 (tN p.xN (sts.getD r []) a t).length) ⟨1,[(0,⟨1,us (tN p.xN (sts.getD r []) a t)⟩)]⟩:=by
 have hg:=kY sts hr;have hne:=Nt (xN:=p.xN) (a:=a) ht;have hL:=qn (xN:=p.xN) (a:=a) ht;have hga:=vL p.xN ha;have hha:((a:Int)<(p.xN.length:Int)):=by omega
 have hhr:((r:Int)<(sts.length:Int)):=by omega
 unfold tN at hne hL ⊢;generalize sts.getD r []=st at *;generalize p.xN.getD a 0=m at *;have hu:(us st).take (t+1)= us (st.take (t+1)):=WV _ _;have hw:IntKind.i64.wrap ((t:Int)+ 1)= ((t+1:Nat):Int):=by rw [wrap_i64 (by omega)]; rfl
 have hst:(st.take (t+1)).length=t+1:=by rw [υ]; omega
 unfold vr Pb;refine xY.xQ mixed func75 FG (by simp) λhf=>?_;simp only [simprocAttr,-ZA,↓zU,↓zD,zV,zT,zW,wO,hhr,hg,hw]
 (repeat refine sd ?_)
 refine⟨0,((t+1:Nat):Int),rfl,rfl,by omega,by omega,by omega,?_⟩;simp only [Aq,Int.toNat_zero,List.drop_zero,hu];generalize st.take (t+1)= q at *;simp only [simprocAttr,-ZA,↓zU,↓zD,zV,zT,zW,xH,hst]
 refine xO (λk:Nat=>[(23,.int .i64 k),(22,.int .i64 ((t+1:Nat):Int)),(21,.sl 1 (us q)),(9,xA 0 1 (us ((q.take k).map λs=>s &&& m))),(1,.int .i64 a),(0,vr p sts)]) (λk=>⟨1,yV 0 1 (us ((q.take k).map λs=>s &&& m))⟩) (λk=>k<=t+1) (λk=>t+1-k) 0 (Ah _) ?_ ?_
 ·unfold vr Pb
  (refine xT.sZ [] [] (by simp) (by simp) (by decide) ?_; simp only [yT,zQ,simprocAttr,-ZA,exists_eq_left',ne_eq,zR,List.take_zero,List.map_nil,cu,vU,vV])
 intro k hk;refine xL mixed ?_;unfold vr Pb
 by_cases hh:k<t+1
 ·have hd:((k:Int)<((t+1:Nat):Int)):=by omega
  have hgq:=vL q (show k<q.length by omega);have ht2:(q.take (k+1)).map (λs=>s &&& m)= (q.take k).map (λs=>s &&& m)++ [q.getD k 0 &&& m]:=by rw [vW (d:=0) (by omega)]; simp
  have hkl:((q.take k).map λs=>s &&& m).length=k:=by simp; omega
  generalize (q.take k).map (λs=>s &&& m)= acc at hkl ht2 ⊢;generalize q.getD k 0=x at hgq ht2;simp only [simprocAttr,-ZA,↓zU,↓zD,zV,zT,zW,hd,xH,hst,hgq,hha,hga]
  (repeat refine sd ?_)
  refine⟨k+1,by omega,?_,by omega⟩;rw [ht2]
  (refine xT.sZ [(0,1)] [0] (by simp) (by simp) (by decide) ?_; simp only [yT,zQ,simprocAttr,-ZA,exists_eq_left',ne_eq,zR])
  exact wrap_i64 (by omega)
 ·have hd:¬ ((k:Int)<((t+1:Nat):Int)):=by omega
  rw [jY (show k=q.length by omega)];generalize q.map (λs=>s &&& m)= acc at *;rw [mN (by intro c; apply hne; cases acc with | nil=>rfl | cons x r=>cases c),qm (by intro c; apply hne; cases acc with | nil=>rfl | cons x r=>cases c),xH];simp only [simprocAttr,-ZA,↓zU,↓zD,zV,zT,zW,hd];exact .same
end Go.Pd

/- Part SQ. -/
namespace Go.Pd
open Go Go.Proofs
open BitVec renaming isValue -> ZA
section
open Ru
end
section
open Ru
theorem iJ {nx n key sz:Nat} {xZ:List (Nat × Ob)} {xV:List (List D)} (hs:0<sz) (hp:∀ e ∈ xV,D.xP e=true) (h:St.look xZ key=vT sz xV) {ρ:Nat->Nat}:vw ⟨nx,xZ⟩ ⟨n,[]⟩ ρ (xA key sz xV) (.sl sz xV):=by
 cases xV with
 | nil=>simp [xA,vw]
 | cons e r=> simp only [xA,vw];refine⟨trivial,hs,by simp,⟨sz,e :: r⟩,?_,rfl,by simp,by simp,hp⟩;show St.look xZ key=_;rw [h]; rfl
namespace Ru
def mC (l:List (Nat × Nat)):List (List D):=l.map λp=>[.int .i64 (p.1:Int),.int .i64 (p.2:Int)]
theorem vD (l:List (Nat × Nat)):(mC l).length=l.length:=by simp [mC]
theorem fD (l:List (Nat × Nat)) {i:Nat} (h:i<l.length):(mC l).getD i [] = [.int .i64 ((l.getD i (0,0)).1:Int),.int .i64 ((l.getD i (0,0)).2:Int)]:=by simp [mC,List.getD,h]
theorem qx (l:List (Nat × Nat)):∀ e ∈ mC l,D.xP e=true:=by intro e he;simp only [mC,ε] at he;obtain⟨r,_,rfl⟩:=he;rfl
theorem yo (l:List (Nat × Nat)):tK (mC l)= True:=eq_true (qx l)
theorem RA (l:List (Nat × Nat)) (a b:Nat):mC l ++ [[.int .i64 (a:Int),.int .i64 (b:Int)]]=mC (l ++ [(a,b)]):=by simp [mC]
theorem Of : mC [] = []:=rfl
def qF (T n:Nat):List (Nat × Nat):=(List.range n).map λi=>(i / T,i % T)
theorem tA (T n:Nat):(qF T n).length=n:=by simp [qF]
theorem bf (T:Nat) {n i:Nat} (h:i<n):(qF T n).getD i (0,0)= (i / T,i % T):=by simp [qF,List.getD,h]
theorem Xy (T r t:Nat) (ht:t<T):qF T (r*T+(t+1))= qF T (r*T+t)++ [(r,t)]:=by
 rw [show r*T+(t+1)= (r*T+t)+ 1 by omega];unfold qF;rw [List.range_succ,List.map_append,List.map_singleton]
 have e1:(r*T+t)/ T=r:=by rw [Ak,An (by omega),Al ht]; rfl
 have e2:(r*T+t) % T=t:=by rw [Ak,Nat.mul_add_mod,Nat.mod_eq_of_lt ht]
 rw [e1,e2]
def YG (s:sC):List (Nat × Nat):=if jK s≠0 then [] else qF s.ln.toNat (s.rs.length*s.ln.toNat)
structure Ok (s : sC) (A F T : Nat) : Prop where
 ag:s.ag=A
 fa:s.fa=F
 ln:s.ln=T
 hA:A<=4
 hF:F<=8
 hT:1<=T/\T<=16
 hR:1<=s.rs.length/\s.rs.length<=64
 hP:s.rs.length*T<=512
 loc:∀ r ∈ s.rs,r.loc.length=T
 cU:∀ r ∈ s.rs,r.cU.length=T
 row:∀ r ∈ s.rs,∀ l ∈ r.loc,l.length=A
 val:∀ r ∈ s.rs,∀ f ∈ r.cU,f >>> F=0#64
theorem XM {s:sC} (h:jK s=0):∃ A F T,Ok s A F T:=by
 unfold jK at h
 split at h
 ·cases h
 rename_i h1
 split at h
 ·cases h
 rename_i h2
 split at h
 ·cases h
 rename_i h3
 split at h
 ·cases h
 rename_i h4
 split at h
 ·cases h
 rename_i h5;obtain⟨A,hA⟩:=Ar (show 0<=s.ag by omega);obtain⟨F,hF⟩:=Ar (show 0<=s.fa by omega);obtain⟨T,hT⟩:=Ar (show 0<=s.ln by omega);have h4':∀ r ∈ s.rs,dU s r=false:=λr hr=>by simpa using ζ.1 (by simpa using h4) r hr
 have h5':∀ r ∈ s.rs,cw s r=false:=λr hr=>by simpa using ζ.1 (by simpa using h5) r hr
 have hb:∀ r ∈ s.rs,r.loc.length=T/\r.cU.length=T/\∀ l ∈ r.loc,l.length=A:=λr hr=>by have:=h4' r hr;simp only [dU,Bool.or_eq_false_iff,Bool.not_eq_false',decide_eq_true_eq,ζ,hT,hA] at this;refine⟨by omega,by omega,λl hl=>?_⟩;have:=this.2 l hl;simp at this;omega
 refine⟨A,F,T,hA,hF,hT,by omega,by omega,by omega,by omega,?_,λr hr=>(hb r hr).1,λr hr=>(hb r hr).2.1,λr hr=>(hb r hr).2.2,λr hr f hf=>?_⟩
 ·have:((s.rs.length*T:Nat):Int)<=512:=by rw [Int.natCast_mul,<- hT]; omega
  omega
 ·have:=h5' r hr;simp only [cw,ζ] at this;have:=this f hf;rw [hF,Aq] at this;simpa using this
theorem Oh {s:sC} {A F T:Nat} (h:Ok s A F T) (hz:jK s=0):YG s=qF T (s.rs.length*T):=by unfold YG; rw [if_neg (by simpa using hz),h.ln,Aq]
end Ru
theorem Pe (s:sC):yW prog 93 [s.d] (.sl 2 (mC (YG s))):=by
 have hD:s.d = .agg [.int .i64 s.ag,.int .i64 s.fa,.int .i64 s.ln,.sl 2 (wM s.rs)]:=rfl;have hC:=ae s;rw [hD] at hC ⊢;refine xY.xQ mixed func93 FL (by simp) λhf=>?_;simp only [simprocAttr,-ZA,↓zU,↓zD,zV,zT,zW]
 (repeat refine sd ?_)
 refine .go (cq hC) ?_;by_cases hz:jK s=0
 case neg=>
  have e:(jK s != 0)= true:=by simpa using hz
  rw [show YG s = [] by unfold YG; rw [if_pos hz]];simp only [simprocAttr,-ZA,↓zU,↓zD,zV,zT,zW,e];exact .drop (by simp) (by simp [vw,mC])
 have e:(jK s != 0)= false:=by simpa using hz
 obtain⟨A,F,T,ok⟩:=XM hz;rw [Oh ok hz];obtain⟨T1,T16⟩:=ok.hT;obtain⟨R1,R64⟩:=ok.hR;simp only [simprocAttr,-ZA,↓zU,↓zD,zV,zT,zW,e,ok.ln,ok.ag,ok.fa,wV]
 refine xO (λr:Nat=>[(12,.int .i64 r),(11,.int .i64 s.rs.length),(3,xA 1 2 (mC (qF T (r*T)))),(1,.ref 0 4 0 0)]) (λr=>⟨2,yV 1 2 (mC (qF T (r*T)))++ [(0,⟨4,[[.int .i64 A,.int .i64 F,.int .i64 T,.sl 2 (wM s.rs)]]⟩)]⟩)
  (λr=>r<=s.rs.length) (λr=>s.rs.length-r) 0 (Ah _) ?_ ?_
 ·rw [Nat.zero_mul]
  (refine xT.sZ [] [0] (by simp) (by simp) (by decide) ?_; simp only [yT,zQ,simprocAttr,-ZA,exists_eq_left',ne_eq,zR,qF,List.range_zero,List.map_nil,Of,vU,vV,List.nil_append])
 intro r hr;refine xL mixed ?_;by_cases hrl:r<s.rs.length
 case neg=>
  have hd:¬ ((r:Int)<(s.rs.length:Int)):=by omega
  rw [show r=s.rs.length by omega] at hd ⊢;simp only [simprocAttr,-ZA,↓zU,↓zD,zV,zT,zW,hd];exact .drop (by simp) (iJ (by decide) (qx _) (by simp [St.look,fR,yQ]))
 have hd:((r:Int)<(s.rs.length:Int)):=by omega
 simp only [simprocAttr,-ZA,↓zU,↓zD,zV,zT,zW,hd]
 refine xO (λt:Nat=>[(17,.int .i64 t),(16,.int .i64 T),(12,.int .i64 r),(11,.int .i64 s.rs.length),(4,.int .i64 r),(3,xA 1 2 (mC (qF T (r*T+t)))),(1,.ref 0 4 0 0)]) (λt=>⟨2,yV 1 2 (mC (qF T (r*T+t)))++ [(0,⟨4,[[.int .i64 A,.int .i64 F,.int .i64 T,.sl 2 (wM s.rs)]]⟩)]⟩)
  (λt=>t<=T) (λt=>T-t) 0 (Ah _) ?_ ?_
 ·rw [Ao]
  (refine xT.sZ [] [1,0] (by simp) (by simp) (by decide) ?_; simp only [yT,zQ,simprocAttr,-ZA,exists_eq_left',ne_eq,zR,yo])
 intro t ht;refine xL mixed ?_;by_cases htl:t<T
 case neg=>
  have hd2:¬ ((t:Int)<(T:Int)):=by omega
  have et:t=T:=by omega
  simp only [simprocAttr,-ZA,↓zU,↓zD,zV,zT,zW,hd2]
  (repeat refine sd ?_)
  refine⟨r+1,by omega,?_,by omega⟩;rw [show (r+1)* T=r*T+t by rw [Nat.add_mul,et]; omega]
  (refine xT.sZ [] [1,0] (by simp) (by simp) (by decide) ?_; simp only [yT,zQ,simprocAttr,-ZA,exists_eq_left',ne_eq,zR,yo])
  exact wrap_i64 (by omega)
 have hd2:((t:Int)<(T:Int)):=by omega
 have hlen:r*T+t<1024:=by
  have:r*T<=64*16-16:=by have:=Nat.mul_le_mul (show r<=63 by omega) T16;omega
  omega
 have hS:=Xy T r t htl;have hln:=tA T (r*T+t);have hw:IntKind.i64.wrap ((t:Int)+ 1)= ((t+1:Nat):Int):=wrap_i64 (by omega);generalize qF T (r*T+t)= l at hS hln;simp only [simprocAttr,-ZA,↓zU,↓zD,zV,zT,zW,hd2,vD,hln]
 (repeat refine sd ?_)
 refine⟨t+1,by omega,?_,by omega⟩;rw [hS,RA]
 (refine xT.sZ [(1,2)] [1,0] (by simp) (by simp) (by decide) ?_; simp only [yT,zQ,simprocAttr,-ZA,exists_eq_left',ne_eq,zR,yo,hw])
end
section
namespace Ru
def yO (rs:List xC) (a:Nat) (p:Nat × Nat):Int:=((rs.getD p.1 rI).loc.getD p.2 []).getD a 0
def lZ (rs:List xC) (p:Nat × Nat):BitVec 64:=(rs.getD p.1 rI).cU.getD p.2 0
def mA (rs:List xC) (l:List (Nat × Nat)) (f:Nat):Nat->BitVec 64
 | 0=>0#64
 | k+1=>mA rs l f k ||| (if (lZ rs (l.getD k (0,0))).getLsbD f then 1#64 <<< k else 0#64)
def jF (rs:List xC) (l:List (Nat × Nat)) (a:Nat) (x:Int):Nat->BitVec 64
 | 0=>0#64
 | k+1=>jF rs l a x k ||| (if yO rs a (l.getD k (0,0))= x then 1#64 <<< k else 0#64)
def jI (rs:List xC) (l:List (Nat × Nat)) (F:Nat):List (BitVec 64):=(List.range F).map λf=>mA rs l f l.length
def pH (rs:List xC) (l:List (Nat × Nat)) (a:Nat):List (BitVec 64):=l.map λp=>jF rs l a (yO rs a p) l.length
def qC (rs:List xC) (l:List (Nat × Nat)) (A:Nat):List (List (BitVec 64)):=(List.range A).map (pH rs l)
def VO (rs:List xC) (l:List (Nat × Nat)) (A F:Nat):D:=.agg [.int .i64 (l.length:Int),.sl 1 (us (jI rs l F)),.sl 1 (rr (qC rs l A))]
structure kQ (rs : List xC) (A F T : Nat) : Prop where
 hA:A<=4
 hF:F<=8
 hT:1<=T/\T<=16
 hR:1<=rs.length/\rs.length<=64
 hP:rs.length*T<=512
 loc:∀ r ∈ rs,r.loc.length=T
 cU:∀ r ∈ rs,r.cU.length=T
 row:∀ r ∈ rs,∀ l ∈ r.loc,l.length=A
 val:∀ r ∈ rs,∀ f ∈ r.cU,f >>> F=0#64
theorem Na {s:sC} (h:jK s=0):∃ (A F T:Nat) (rs:List xC),s=⟨A,F,T,rs⟩/\ kQ rs A F T:=by obtain⟨A,F,T,ok⟩:=XM h;obtain⟨ag,fa,ln,rs⟩:=s;obtain⟨h1,h2,h3,h4,h5,h6,h7,h8,h9,h10,h11,h12⟩:=ok;simp only at h1 h2 h3 h7 h8 h9 h10 h11 h12;subst h1 h2 h3;exact⟨A,F,T,rs,rfl,⟨h4,h5,h6,h7,h8,h9,h10,h11,h12⟩⟩
def Kv (rs:List xC) (T:Nat) (l:List (Nat × Nat)):Prop:=∀ p ∈ l,p.1<rs.length/\p.2<T
theorem xi {rs:List xC} {T n:Nat} (hT:1<=T) (hn:n<=rs.length*T):Kv rs T (qF T n):=λp hp=>by simp only [qF,ε,γ] at hp;obtain⟨i,hi,rfl⟩:=hp;refine⟨(Nat.div_lt_iff_lt_mul (by omega)).2 (by omega),Nat.mod_lt _ (by omega)⟩
def sD (A F T:Nat) (rs:List xC):D:=.agg [.int .i64 (A:Int),.int .i64 (F:Int),.int .i64 (T:Int),.sl 2 (wM rs)]
theorem tF (x:Int):∀ (l:List (Int × D)) (i:Nat),uZ x l i=(uZ x l 0).map λp=>(p.1+i,p.2)
 | [],i=>rfl
 | (k,d) :: r,i=>by
  unfold uZ
  by_cases h:x=k
  ·rw [if_pos h,if_pos h]; simp
  ·rw [if_neg h,if_neg h,tF x r (i+1),tF x r (0+1)]
   cases uZ x r 0 with
   | none=>rfl
   | some p=>simp; omega
end Ru
open Ru
end
open Ru
namespace Ru
def gT (F:Nat) (g h:Nat->BitVec 64) (i:Nat):List (BitVec 64):=(List.range F).map λf=>if f<i then g f else h f
theorem qv (F:Nat) (g h:Nat->BitVec 64) (i:Nat):(gT F g h i).length=F:=by simp [gT]
theorem il (F:Nat) (g h:Nat->BitVec 64):gT F g h 0=(List.range F).map h:=by simp [gT]
theorem Xh (F:Nat) (g h:Nat->BitVec 64) {i:Nat} (hi:F<=i):gT F g h i=(List.range F).map g:=by refine δ λf hf=>?_;rw [if_pos (by have:=γ.1 hf; omega)]
theorem Xi {F:Nat} (g h:Nat->BitVec 64) {i:Nat} (hi:i<F):(gT F g h i).getD i 0=h i:=by simp [gT,List.getD,hi]
theorem Xj (F:Nat) (g h:Nat->BitVec 64) (i:Nat):(gT F g h i).set i (g i)= gT F g h (i+1):=by
 refine η (by simp [gT]) λk h1 h2=>?_;rw [ω];simp only [gT,ξ,τ]
 by_cases e:i=k
 ·subst e; rw [if_pos rfl,if_pos (by omega)]
 ·rw [if_neg e]
  by_cases hk:k<i
  ·rw [if_pos hk,if_pos (by omega)]
  ·rw [if_neg hk,if_neg (by omega)]
theorem NT (x:BitVec 64) (f w:Nat):(x >>> f &&& 1#64) <<< w=if x.getLsbD f then 1#64 <<< w else 0#64:=by
 rw [qe]
 split
 ·rfl
 ·exact BitVec.zero_shiftLeft _
end Ru
end Go.Pd

/- Part S7. -/
namespace Go.Pd
open Go Go.Proofs
open BitVec renaming isValue -> ZA
namespace Ru
structure rG where
 W:Int
 V:List (BitVec 64)
 R:List (List (BitVec 64))
def rG.d (m:rG):D:=.agg [.int .i64 m.W,.sl 1 (us m.V),.sl 1 (rr m.R)]
def sE (n:Nat):BitVec 64:=if 64<=n then 18446744073709551615#64 else 1#64 <<< n-1#64
def eA (n:Nat) (x:BitVec 64):Bool:=!decide (x &&& ~~~(sE n)= 0#64)
structure lV (m : rG) (W : Nat) : Prop where
 w:m.W=W
 hW:1<=W/\W<=64
 hV:m.V.length<=8
 hR:m.R.length<=4
 row:∀ r ∈ m.R,r.length=W
 val:∀ x ∈ m.V,eA W x=false
 rel:∀ r ∈ m.R,∀ x ∈ r,eA W x=false
theorem oC {n:Nat} (hn:n<=64) {i:Nat} (hi:i<64):(sE n).getLsbD i=decide (i<n):=by
 unfold sE
 by_cases h:64<=n
 ·rw [if_pos h,show 18446744073709551615#64=BitVec.allOnes 64 from rfl,BitVec.getLsbD_allOnes];simp [hi]; omega
 ·rw [if_neg h];have:∀ n,n<64->∀ i,i<64->(1#64 <<< n-1#64).getLsbD i=decide (i<n):=by decide
  exact this n (by omega) i hi
theorem ba {n:Nat} (hn:n<=64) {x:BitVec 64} (h:∀ i,x.getLsbD i=true->i<n):eA n x=false:=by
 unfold eA;rw [Bool.not_eq_false',decide_eq_true_iff];refine BitVec.eq_of_getLsbD_eq λi hi=>?_;rw [BitVec.getLsbD_and,BitVec.getLsbD_not,oC hn hi,BitVec.getLsbD_zero]
 cases hx:x.getLsbD i
 ·rfl
 ·simp [h i hx]
end Ru
open Ru
theorem O0 {σ:St} {g:FuncId} {caps:List D} {f:List (BitVec 64)->Bool} {l:List (List (BitVec 64))} (hl:l.length<=1000) (h:∀ x ∈ l,xY prog g ([.sl 1 (us x)]++caps) σ (.bool (f x)) σ):xY prog 199 [.sl 1 (rr l),.fn g caps] σ (.int .i64 (fI f l 0)) σ:=by
 refine xY.xQ mixed func199 Iu (by simp) λhf=>?_;simp only [simprocAttr,-ZA,↓zU,↓zD,zV,zT,zW,wO]
 refine xO (λk:Nat=>[(8,.int .i64 k),(7,.int .i64 l.length),(1,.fn g caps),(0,.sl 1 (rr l))]) (λ_=>σ) (λk=>k<=l.length/\fI f l 0=fI f (l.drop k) k) (λk=>l.length-k) 0 ⟨Ah _,rfl⟩ ?_ ?_
 ·(refine xT.same ?_; simp [xR,Fr.get])
 intro k ⟨hk,hi⟩;refine xL mixed ?_
 by_cases hh:k<l.length
 ·have hd:((k:Int)<(l.length:Int)):=by omega
  rw [drop_cons (d:=[]) hh,fI] at hi;simp only [simprocAttr,-ZA,↓zU,↓zD,zV,zT,zW,hd,wO,kY _ hh]
  (repeat refine sd ?_)
  refine .go (h _ (xK hh)) ?_
  cases hx:f (l.getD k [])
  ·rw [hx,if_neg (by simp)] at hi;simp only [simprocAttr,-ZA,↓zU,↓zD,zV,zT,zW];refine⟨k+1,⟨by omega,hi⟩,?_,by omega⟩
   (refine xT.same ?_; simp only [xR,Fr.get,simprocAttr,-ZA,zS])
   exact wrap_i64 (by omega)
  ·rw [hx,if_pos rfl] at hi;simp only [simprocAttr,-ZA,↓zU,↓zD,zV,zT,zW];rw [hi];exact .same
 ·have hd:¬ ((k:Int)<(l.length:Int)):=by omega
  rw [θ (by omega),fI] at hi;simp only [simprocAttr,-ZA,↓zU,↓zD,zV,zT,zW,hd];rw [hi];exact .same
theorem Z3 {σ:St} {g:FuncId} {caps:List D} {f:List (BitVec 64)->Bool} {l:List (List (BitVec 64))} (hl:l.length<=1000) (h:∀ x ∈ l,xY prog g ([.sl 1 (us x)]++caps) σ (.bool (f x)) σ):xY prog 139 [.sl 1 (rr l),.fn g caps] σ (.bool (l.any f)) σ:=by
 refine xY.xQ mixed func139 I7 (by simp) λhf=>?_;simp only [simprocAttr,-ZA,↓zU,↓zD,zV,zT,zW];refine .go (O0 hl h) ?_;have hx:=eY (f:=f) (c:=l) (i:=0) (Int.le_refl 0)
 cases ha:l.any f
 ·have h1:¬ 0<=fI f l 0:=λy=>by rw [hx.1 y] at ha; cases ha
  simp only [simprocAttr,-ZA,↓zU,↓zD,zV,zT,zW,h1];exact .same
 ·have h1:=hx.2 ha;simp only [simprocAttr,-ZA,↓zU,↓zD,zV,zT,zW,h1];exact .same
theorem Jd (n:Nat):yW prog 198 [.int .i64 n] (.int .u64 (ui (sE n))):=by
 refine xY.xQ mixed func198 It (by simp) λhf=>?_;unfold sE
 by_cases h:64<=n
 ·have e:(64:Int)<=(n:Int):=by omega
  rw [if_pos h];simp only [simprocAttr,-ZA,↓zU,↓zD,zV,zT,zW,e];exact .same
 ·have e:¬ (64:Int)<=(n:Int):=by omega
  rw [if_neg h];simp only [simprocAttr,-ZA,↓zU,↓zD,zV,zT,zW,e]
  (repeat refine sd ?_)
  exact .same
theorem Jy {n nx:Nat} {xZ:List (Nat × Ob)} {k:Nat} (h0:St.look xZ k=some ⟨1,[[.int .i64 n]]⟩) (x:BitVec 64):xY prog 197 ([.int .u64 (ui x)] ++ [.ref k 1 0 0]) ⟨nx,xZ⟩ (.bool (eA n x)) ⟨nx,xZ⟩:=by
 refine xY.xQ mixed func197 Ir (by simp) λhf=>?_;simp only [simprocAttr,-ZA,↓zU,↓zD,zV,zT,zW,h0]
 (repeat refine sd ?_)
 refine .go (cq (Jd n)) ?_;simp only [simprocAttr,-ZA,↓zU,↓zD,zV,zT,zW];rw [show (x &&& ~~~(sE n) != 0#64)= eA n x by unfold eA; rw [bne]; congr 1];exact .same
theorem iv {l:List (BitVec 64)} (hl:l.length<=1000) (n:Nat):yW prog 138 [.sl 1 (us l),.int .i64 n] (.bool (l.any (eA n))):=by refine xY.xQ mixed func138 I6 (by simp) λhf=>?_;simp only [simprocAttr,-ZA,↓zU,↓zD,zV,zT,zW];refine .go (bY (caps:=[.ref 0 1 0 0]) hl λx _=>Jy rfl x) ?_;simp only [simprocAttr,-ZA,↓zU,↓zD,zV,zT,zW];exact .dv
theorem Jk {m:rG} {W:Nat} (hw:m.W=W) {nx:Nat} {xZ:List (Nat × Ob)} (h0:St.look xZ 0=some ⟨3,[[.int .i64 m.W,.sl 1 (us m.V),.sl 1 (rr m.R)]]⟩) {x:List (BitVec 64)} (hx:x.length<=1000):xY prog 140 ([.sl 1 (us x)] ++ [.ref 0 3 0 0]) ⟨nx,xZ⟩ (.bool (x.any (eA W))) ⟨nx,xZ⟩:=by
 refine xY.xQ mixed func140 I8 (by simp) λhf=>?_;simp only [simprocAttr,-ZA,↓zU,↓zD,zV,zT,zW,h0,hw]
 (repeat refine sd ?_)
 refine .go (cr (iv hx W)) ?_;simp only [simprocAttr,-ZA,↓zU,↓zD,zV,zT,zW];exact .same
theorem ov {m:rG} {W:Nat} (ok:lV m W):yW prog 90 [m.d] (.int .i64 0):=by
 obtain⟨W1,W64⟩:=ok.hW;have h1:¬ (W:Int)<1:=by omega
 have h2:¬ (64:Int)<(W:Int):=by omega
 have h3:¬ (4:Int)<(m.R.length:Int):=by have:=ok.hR; omega
 have h4:¬ (8:Int)<(m.V.length:Int):=by have:=ok.hV; omega
 have hv:m.V.any (eA W)= false:=ζ.2 λx hx=>by rw [ok.val x hx]; simp
 have hr:m.R.any (λx=>x.any (eA W))= false:=ζ.2 λx hx=>by rw [ζ.2 λy hy=>by rw [ok.rel x hx y hy]; simp]; simp
 have ho:=iv (l:=m.V) (by have:=ok.hV; omega) W;have hc:=Z3 (σ:=⟨1,[(0,⟨3,[[.int .i64 m.W,.sl 1 (us m.V),.sl 1 (rr m.R)]]⟩)]⟩) (g:=140) (caps:=[.ref 0 3 0 0]) (f:=λx=>x.any (eA W)) (l:=m.R) (by have:=ok.hR; omega) λx hx=>Jk ok.w rfl (by rw [ok.row x hx]; omega);rw [hv] at ho;rw [hr,ok.w] at hc;unfold rG.d;refine xY.xQ mixed func90 FI (by simp) λhf=>?_;simp only [simprocAttr,-ZA,↓zU,↓zD,zV,zT,zW,ok.w,h1,h2,wO,xH,h3,h4]
 refine xO (λk:Nat=>[(26,.int .i64 k),(25,.int .i64 m.R.length),(24,.sl 1 (rr m.R)),(1,.ref 0 3 0 0)]) (λ_=>⟨1,[(0,⟨3,[[.int .i64 W,.sl 1 (us m.V),.sl 1 (rr m.R)]]⟩)]⟩)
  (λk=>k<=m.R.length) (λk=>m.R.length-k) 0 (Ah _) ?_ ?_
 ·(refine xT.same ?_; simp [xR,Fr.get])
 intro k hk;refine xL mixed ?_
 by_cases h:k<m.R.length
 ·have hd:((k:Int)<(m.R.length:Int)):=by omega
  have hrw:=ok.row _ (xK (d:=[]) h);have hg:=kY m.R h;generalize m.R.getD k []=r at hrw hg;have e:((r.length:Int) != (W:Int))= false:=by rw [hrw]; simp
  simp only [simprocAttr,-ZA,↓zU,↓zD,zV,zT,zW,hd,wO,hg,xH,e]
  (repeat refine sd ?_)
  refine⟨k+1,by omega,?_,by omega⟩
  (refine xT.same ?_; simp only [xR,Fr.get,simprocAttr,-ZA,zS])
  exact wrap_i64 (by omega)
 ·have hd:¬ ((k:Int)<(m.R.length:Int)):=by omega
  simp only [simprocAttr,-ZA,↓zU,↓zD,zV,zT,zW,hd];refine .go (cr ho) ?_;simp only [simprocAttr,-ZA,↓zU,↓zD,zV,zT,zW];refine .go hc ?_;simp only [simprocAttr,-ZA,↓zU,↓zD,zV,zT,zW];exact .dv
open Ru
theorem LS (s:BitVec 64):tS .xor .u64 (if IntKind.u64.signed=true then -1 else IntKind.u64.max) (ui s)= ui (~~~s):=by rw [if_neg (by decide),show IntKind.u64.max=ui (BitVec.allOnes 64) by decide +kernel,Sv];congr 1
theorem WB (n:Nat):yW prog 251 [.int .i64 n] (.int .u64 (ui (sE n))):=by
 refine xY.xQ mixed func251 JK (by simp) λhf=>?_;unfold sE
 by_cases h:64<=n
 ·have e:(64:Int)<=(n:Int):=by omega
  rw [if_pos h];simp only [simprocAttr,-ZA,↓zU,↓zD,zV,zT,zW,e];exact .same
 ·have e:¬ (64:Int)<=(n:Int):=by omega
  rw [if_neg h];simp only [simprocAttr,-ZA,↓zU,↓zD,zV,zT,zW,e]
  (repeat refine sd ?_)
  exact .same
namespace Ru
structure jm (r : List (BitVec 64)) : Prop where
 len:r.length<=64
 ins:∀ x ∈ r,eA r.length x=false
def xm (r:List (BitVec 64)) (s:BitVec 64):Nat->BitVec 64
 | 0=>0#64
 | w+1=>if (r.getD w 0 &&& ~~~s==0#64)= true then xm r s w ||| 1#64 <<< w else xm r s w
def gM (r:List (BitVec 64)) (s:BitVec 64):BitVec 64:=xm r s r.length
def VJ (r:List (BitVec 64)) (s:BitVec 64):BitVec 64:=sE r.length &&& ~~~(gM r (~~~s))
end Ru
theorem wk {r:List (BitVec 64)} (ok:jm r):yW prog 250 [.int .i64 r.length,.sl 1 (us r)] (.int .i64 0):=by
 have h1:¬ ((r.length:Int)<0):=by omega
 have h2:¬ ((64:Int)<(r.length:Int)):=by have:=ok.len; omega
 have h3:((r.length:Int) != (r.length:Int))= false:=by simp
 have ha:=WB r.length;refine xY.xQ mixed func250 JJ (by simp) λhf=>?_;simp only [simprocAttr,-ZA,↓zU,↓zD,zV,zT,zW,xH,h1,h2,h3]
 refine xO (λk:Nat=>[(19,.int .i64 k),(18,.int .i64 r.length),(17,.sl 1 (us r)),(0,.int .i64 r.length)]) (λ_=>⟨0,[]⟩) (λk=>k<=r.length) (λk=>r.length-k) 0 (Ah _) ?_ ?_
 ·(refine xT.same ?_; simp [xR,Fr.get])
 intro k hk;refine xL mixed ?_
 by_cases h:k<r.length
 ·have hd:((k:Int)<(r.length:Int)):=by omega
  have hx:=ok.ins _ (xK (d:=0) h)
  have e:(r.getD k 0 &&& ~~~(sE r.length) != 0#64)= false:=by have:=hx;unfold eA at this;rw [bne];simpa using this
  have hg:=vL r h;simp only [simprocAttr,-ZA,↓zU,↓zD,zV,zT,zW,hd,xH,hg]
  (repeat refine sd ?_)
  refine .go (cq ha) ?_;simp only [simprocAttr,-ZA,↓zU,↓zD,zV,zT,zW,e]
  (repeat refine sd ?_)
  refine⟨k+1,by omega,?_,by omega⟩
  (refine xT.same ?_; simp only [xR,Fr.get,simprocAttr,-ZA,zS])
  exact wrap_i64 (by omega)
 ·have hd:¬ ((k:Int)<(r.length:Int)):=by omega
  simp only [simprocAttr,-ZA,↓zU,↓zD,zV,zT,zW,hd];exact .same
theorem rq {r:List (BitVec 64)} (ok:jm r) (s:BitVec 64):yW prog 214 [.sl 1 (us r),.int .u64 (ui s)] (.int .u64 (ui (gM r s))):=by
 have hc:=wk ok;have hl:=ok.len;refine xY.xQ mixed func214 J6 (by simp) λhf=>?_;simp only [simprocAttr,-ZA,↓zU,↓zD,zV,zT,zW,xH];refine .go (cr hc) ?_;simp only [simprocAttr,-ZA,↓zU,↓zD,zV,zT,zW,xH]
 refine xO (λk:Nat=>[(14,.int .i64 k),(13,.int .i64 r.length),(5,.int .u64 (ui (xm r s k))),(1,.int .u64 (ui s)),(0,.sl 1 (us r))]) (λ_=>⟨0,[]⟩) (λk=>k<=r.length) (λk=>r.length-k) 0 (Ah _) ?_ ?_
 ·(refine xT.same ?_; simp [xR,Fr.get])
  rfl
 intro k hk;refine xL mixed ?_
 by_cases h:k<r.length
 ·have hd:((k:Int)<(r.length:Int)):=by omega
  have hg:=vL r h;have hs:xm r s (k+1)= if (r.getD k 0 &&& ~~~s==0#64)= true then xm r s k ||| 1#64 <<< k else xm r s k:=rfl
  cases e:(r.getD k 0 &&& ~~~s==0#64) with
  | true=>
   rw [e,if_pos rfl] at hs;simp only [simprocAttr,-ZA,↓zU,↓zD,zV,zT,zW,hd,xH,hg,e]
   (repeat refine sd ?_)
   refine⟨k+1,by omega,?_,by omega⟩;rw [hs]
   (refine xT.same ?_; simp only [xR,Fr.get,simprocAttr,-ZA,zS])
   exact wrap_i64 (by omega)
  | false=>
   rw [e,if_neg (by simp)] at hs;simp only [simprocAttr,-ZA,↓zU,↓zD,zV,zT,zW,hd,xH,hg,e]
   (repeat refine sd ?_)
   refine⟨k+1,by omega,?_,by omega⟩;rw [hs]
   (refine xT.same ?_; simp only [xR,Fr.get,simprocAttr,-ZA,zS])
   exact wrap_i64 (by omega)
 ·have hd:¬ ((k:Int)<(r.length:Int)):=by omega
  have hk':k=r.length:=by omega
  subst hk';simp only [simprocAttr,-ZA,↓zU,↓zD,zV,zT,zW,hd];exact .same
theorem Wm {r:List (BitVec 64)} (ok:jm r) (s:BitVec 64):yW prog 215 [.sl 1 (us r),.int .u64 (ui s)] (.int .u64 (ui (VJ r s))):=by have hc:=wk ok;have ha:=WB r.length;have hb:=rq ok (~~~s);refine xY.xQ mixed func215 J7 (by simp) λhf=>?_;simp only [simprocAttr,-ZA,↓zU,↓zD,zV,zT,zW,xH];refine .go (cr hc) ?_;simp only [simprocAttr,-ZA,↓zU,↓zD,zV,zT,zW,xH];refine .go (cq ha) ?_;simp only [simprocAttr,-ZA,↓zU,↓zD,zV,zT,zW,LS];refine .go (cr hb) ?_;simp only [simprocAttr,-ZA,↓zU,↓zD,zV,zT,zW];exact .drop (by simp) (by simp [vw,VJ])
section
open Rs Fm Ru
namespace Te
def jL (l:List Bool):List (List D):=l.map λb=>[.bool b]
def yR (R T:Nat) (φ:Nat × Nat->Bool):List (List D):=(List.range R).map λi=>[.sl 1 (jL ((List.range T).map λt=>φ (i,t)))]
def vp (T:Nat) (kr:Nat->Nat) (r i:Nat):List D:=if i<r then [.yD (kr i) 1 T] else [.xJ]
def pU (R T:Nat) (kr:Nat->Nat) (r:Nat):List (List D):=(List.range R).map (vp T kr r)
theorem nG (R T:Nat) (kr:Nat->Nat) (r:Nat):(pU R T kr r).length=R:=by simp [pU]
theorem yt {R T:Nat} {kr:Nat->Nat} {r i:Nat} (hi:i<R) (h:i<r):(pU R T kr r).getD i [] = [.yD (kr i) 1 T]:=by simp [pU,vp,List.getD,hi,h]
theorem Un {R T:Nat} {kr:Nat->Nat} {i:Nat} (hi:i<R):(pU R T kr i).getD i [] = [.xJ]:=by simp [pU,vp,List.getD,hi]
theorem Uo {R T:Nat} {kr:Nat->Nat} {r n:Nat}:(pU R T kr r).set r [.yD n 1 T]=pU R T (λi=>if i=r then n else kr i) (r+1):=by
 refine η (by simp [pU]) λk h1 h2=>?_;rw [ω];simp only [pU,ξ,τ,vp]
 by_cases e:r=k
 ·subst e; rw [if_pos rfl,if_pos (by omega),if_pos rfl]
 ·rw [if_neg e]
  by_cases hk:k<r
  ·rw [if_pos hk,if_pos (by omega),if_neg (by omega)]
  ·rw [if_neg hk,if_neg (by omega)]
theorem Zh (R T:Nat) (kr:Nat->Nat):pU R T kr 0=List.replicate R [.xJ]:=by refine η (by simp [pU]) λk h1 h2=>by simp [pU,vp]
structure TI (R T nb r : Nat) (kr : Nat -> Nat) (v : Nat -> Nat -> Bool) (nx : Nat) (objs0 xZ : List (Nat × Ob)) : Prop where
 n1:nb<nx
 tV:∀ k,k<nb->St.look xZ k=St.look objs0 k
 lo:St.look xZ nb=some ⟨1,pU R T kr r⟩
 lr:∀ i,i<r->nb<kr i/\kr i<nx/\St.look xZ (kr i)= some ⟨1,jL ((List.range T).map (v i))⟩
 dr:∀ i j,i<r->j<r->kr i=kr j->i=j
theorem TI.row {R T nb r:Nat} {kr:Nat->Nat} {v:Nat->Nat->Bool} {nx nx' n:Nat} {objs0 xZ objs':List (Nat × Ob)} (h:TI R T nb r kr v nx objs0 xZ) (hn:nx<=n/\n<nx')
  (hs:∀ k,k<nx->k≠nb->St.look objs' k=St.look xZ k) (ho:St.look objs' nb=some ⟨1,pU R T (λi=>if i=r then n else kr i) (r+1)⟩) (hx:St.look objs' n=some ⟨1,jL ((List.range T).map (v r))⟩) :
  TI R T nb (r+1) (λi=>if i=r then n else kr i) v nx' objs0 objs':=by
 have n1:=h.n1
 refine⟨by omega,λk hk=>by rw [hs k (by omega) (by omega),h.tV k hk],ho,λi hi=>?_,λi j hi hj e=>?_⟩
 ·by_cases e:i=r
  ·subst e; simp only [if_true]; exact⟨by omega,hn.2,hx⟩
  ·simp only [if_neg e];obtain⟨a,b,c⟩:=h.lr i (by omega);exact⟨a,by omega,by rw [hs _ b (by omega)]; exact c⟩
 ·by_cases ei:i=r <;> by_cases ej:j=r
  ·omega
  ·subst ei; simp only [if_true,if_neg ej] at e;have:=h.lr j (by omega); omega
  ·subst ej; simp only [if_true,if_neg ei] at e;have:=h.lr i (by omega); omega
  ·simp only [if_neg ei,if_neg ej] at e;exact h.dr i j (by omega) (by omega) e
theorem TI.Kr {R T nb r:Nat} {kr:Nat->Nat} {v v':Nat->Nat->Bool} {nx nx':Nat} {objs0 xZ objs':List (Nat × Ob)} (h:TI R T nb r kr v nx objs0 xZ) (hn:nx<=nx') {i:Nat} (hi:i<r)
  (hv:∀ j t,j<r->t<T->j≠i->v j t=v' j t) (hs:∀ k,k<nx->k≠kr i->St.look objs' k=St.look xZ k) (hx:St.look objs' (kr i)= some ⟨1,jL ((List.range T).map (v' i))⟩):TI R T nb r kr v' nx' objs0 objs':=by
 have n1:=h.n1;obtain⟨q1,q2,q3⟩:=h.lr i hi;refine⟨by omega,λk hk=>by rw [hs k (by omega) (by omega),h.tV k hk],by rw [hs nb n1 (by omega)]; exact h.lo,λj hj=>?_,h.dr⟩;obtain⟨a,b,c⟩:=h.lr j hj;refine⟨a,by omega,?_⟩
 by_cases e:j=i
 ·subst e; exact hx
 ·rw [hs _ b (λe2=>e (h.dr j i hj hi e2)),c];congr 3;exact δ λt ht=>hv j t hj (γ.1 ht) e
end Te
end
section
open Rs Fm Ru Te
mutual
theorem Zn {n m:Nat} (hm:n<=m):∀ {d:D},d.under n->d.under m
 | .top,_ | .sS,_ | .int _ _,_ | .bool _,_ | .str _,_ | .sl _ _,_ | .xJ,_ | .emp,_ | .ptr _,_ | .oN,_ | .qW,_ | .sI,_ | .xt _,_=>by simp only [D.under]
 | .agg cs,h=>by simp only [D.under] at h ⊢; exact rQ hm h
 | .wE cs,h=>by simp only [D.under] at h ⊢; exact rQ hm h
 | .fn _ cs,h=>by simp only [D.under] at h ⊢; exact rQ hm h
 | .ref _ _ _ _,h=>by simp only [D.under] at h ⊢; omega
 | .yD _ _ _,h=>by simp only [D.under] at h ⊢; omega
 | .sub _ _ _ _,h=>by simp only [D.under] at h ⊢; omega
 | .yK _,h=>by simp only [D.under] at h ⊢; omega
theorem rQ {n m:Nat} (hm:n<=m):∀ {cs:List D},D.vA n cs->D.vA m cs
 | [],_=>by simp only [D.vA]
 | d :: r,h=>by simp only [D.vA] at h ⊢; exact⟨Zn hm h.1,rQ hm h.2⟩
end
theorem lU {σ σ':St} {ρ:Nat->Nat} {α:Type} {f g:α->List D}:∀ {l:List α},(∀ i ∈ l,(f i).length=(g i).length/\uR σ σ' ρ (f i) (g i))->s9 σ σ' ρ (l.map f) (l.map g)
 | [],_=>.nil
 | x :: l,h=>.cons (h x (by simp)).1 (h x (by simp)).2 (lU λi hi=>h i (π _ hi))
mutual
theorem MN {σ σ':St} {ρ:Nat->Nat} {n:Nat} (hn:n<=σ'.nx) (hρ:∀ k,k<n->ρ k=k):∀ {d:D},d.under n->vw σ σ' ρ d d
 | .top,_=>by simp only [vw]
 | .sS,_=>by simp only [vw]
 | .int _ _,_=>by simp only [vw]
 | .bool _,_=>by simp only [vw]
 | .str _,_=>by simp only [vw]
 | .sl _ _,_=>by simp only [vw]; exact⟨trivial,trivial⟩
 | .xJ,_=>by simp only [vw]
 | .emp,_=>by simp only [vw]
 | .agg cs,h=>by simp only [vw]; simp only [D.under] at h; exact⟨trivial,aX hn hρ h⟩
 | .wE cs,h=>by simp only [vw]; simp only [D.under] at h; exact⟨trivial,aX hn hρ h⟩
 | .fn _ cs,h=>by simp only [vw]; simp only [D.under] at h; exact⟨trivial,trivial,aX hn hρ h⟩
 | .ref _ _ _ _,h=>by simp only [vw]; simp only [D.under] at h; rw [hρ _ h]; exact⟨by omega,rfl⟩
 | .yD _ _ _,h=>by simp only [vw]; simp only [D.under] at h; rw [hρ _ h]; exact⟨by omega,rfl⟩
 | .sub _ _ _ _,h=>by simp only [vw]; simp only [D.under] at h; rw [hρ _ h]; exact⟨by omega,rfl⟩
 | .ptr _,_=>by simp only [vw]; exact .inl trivial
 | .yK _,h=>by simp only [vw]; simp only [D.under] at h; rw [hρ _ h]; exact⟨by omega,rfl⟩
 | .oN,_=>by simp only [vw]
 | .qW,_=>by simp only [vw]
 | .sI,_=>by simp only [vw]
 | .xt _,_=>by simp only [vw]
theorem aX {σ σ':St} {ρ:Nat->Nat} {n:Nat} (hn:n<=σ'.nx) (hρ:∀ k,k<n->ρ k=k):∀ {cs:List D},D.vA n cs->uR σ σ' ρ cs cs
 | [],_=>by simp only [uR]
 | d :: r,h=>by simp only [uR]; simp only [D.vA] at h; exact⟨MN hn hρ h.1,aX hn hρ h.2⟩
end
theorem WZ {σ σ':St} {ρ:Nat->Nat} {n:Nat} (hn:n<=σ'.nx) (hρ:∀ k,k<n->ρ k=k):∀ {xV:List (List D)},(∀ e ∈ xV,D.vA n e)->s9 σ σ' ρ xV xV
 | [],_=>.nil
 | e :: r,h=>.cons rfl (aX hn hρ (h e (by simp))) (WZ hn hρ λx hx=>h x (π _ hx))
namespace Te
def cS (nx R T:Nat) (φ:Nat × Nat->Bool):List (Nat × Ob):=(nx,⟨1,(List.range R).map λi=>[.yD (nx+1+i) 1 T]⟩) :: (List.range R).map λi=>(nx+1+i,⟨1,jL ((List.range T).map λt=>φ (i,t))⟩)
theorem mP : ∀ {a b:List (Nat × Ob)} {k:Nat},St.look (a++b) k=(St.look a k).or (St.look b k)
 | [],_,_=>rfl
 | (j,o) :: r,b,k=>by
  rw [Ag,xX,xX]
  by_cases e:j=k
  ·rw [if_pos e,if_pos e]; rfl
  ·rw [if_neg e,if_neg e,mP]
theorem wg {c:Nat} {f:Nat->Ob} {k:Nat}:∀ {l:List Nat},(k ∈ l->St.look (l.map λi=>(c+i,f i)) (c+k)= some (f k))/\ (k ∉ l->St.look (l.map λi=>(c+i,f i)) (c+k)= none)
 | []=>⟨λh=>(by cases h),λ_=>rfl⟩
 | j :: l=>by
  have ih:=wg (c:=c) (f:=f) (k:=k) (l:=l);rw [List.map_cons,xX]
  by_cases e:j=k
  ·subst e; rw [if_pos rfl]; exact⟨λ_=>rfl,λh=>absurd (by simp) h⟩
  ·rw [if_neg (by omega)];refine⟨λh=>ih.1 ?_,λh=>ih.2 λh2=>h (π _ h2)⟩
   rcases ν.1 h with h | h
   ·exact absurd h.symm e
   ·exact h
theorem gZ {c:Nat} {f:Nat->Ob} {k:Nat} (h:k<c):∀ {l:List Nat},St.look (l.map λi=>(c+i,f i)) k=none
 | []=>rfl
 | j :: l=>by rw [List.map_cons,xX,if_neg (by omega)]; exact gZ h
theorem R5 {nx R T k:Nat} {φ:Nat × Nat->Bool} (h:k<nx):St.look (cS nx R T φ) k=none:=by unfold cS;rw [xX,if_neg (by omega)];exact gZ (by omega)
theorem R6 {nx R T i:Nat} {φ:Nat × Nat->Bool} (h:i<R):St.look (cS nx R T φ) (nx+1+i)= some ⟨1,jL ((List.range T).map λt=>φ (i,t))⟩:=by unfold cS;rw [xX,if_neg (by omega)];exact(wg (f:=λi=>⟨1,jL ((List.range T).map λt=>φ (i,t))⟩)).1 (γ.2 h)
theorem R7 {nx R T:Nat} {φ:Nat × Nat->Bool}:St.look (cS nx R T φ) nx=some ⟨1,(List.range R).map λi=>[.yD (nx+1+i) 1 T]⟩:=by unfold cS; rw [xX,if_pos rfl]
theorem TI.start {nx R T:Nat} {φ:Nat × Nat->Bool} {xZ:List (Nat × Ob)}:TI R T nx R (λi=>nx+1+i) (λi t=>φ (i,t)) (nx+1+R) xZ (cS nx R T φ++xZ):=by refine⟨by omega,λk hk=>by rw [mP,R5 hk]; rfl,?_,λi hi=>⟨by omega,by omega,by rw [mP,R6 hi]; rfl⟩,λi j _ _ e=>by omega⟩;rw [mP,R7];show some _=_;congr 2;exact δ λi hi=>by unfold vp; rw [if_pos (γ.1 hi)]
end Te
theorem xY.alike {P:Program} {g:FuncId} {args:List D} {σ:St} {d:D} {nx:Nat} {xZ objs':List (Nat × Ob)} (hl:∀ k,St.look xZ k=St.look objs' k) (h:xY P g args σ d ⟨nx,objs'⟩):xY P g args σ d ⟨nx,xZ⟩:=by
 refine⟨h.ord,λM0 w ι vals hS hl' hv=>(h.run M0 w ι vals hS hl' hv).mono λe w' hh=>?_⟩;obtain⟨v,ι',h1,h2,h3,h4,h5,h6,h7⟩:=hh;have hg:∀ k,St.get ⟨nx,xZ⟩ k=St.get ⟨nx,objs'⟩ k:=λk=>hl k
 have hM:yH M0 ι' ⟨nx,xZ⟩= yH M0 ι' ⟨nx,objs'⟩:=by funext b;unfold yH;simp only [hg]
 refine⟨v,ι',h1,h2,⟨h3.tV,λk o hk=>?_,λk k' o o' a b=>?_,λk o hk=>?_,?_⟩,h4,h5,λk o hk=>h6 k o (by rw [<- hg]; exact hk),by rw [hM]; exact h7⟩
 ·rw [hM]; exact h3.holds k o (by rw [<- hg]; exact hk)
 ·exact h3.inj k k' o o' (by rw [<- hg]; exact a) (by rw [<- hg]; exact b)
 ·exact h3.notM k o (by rw [<- hg]; exact hk)
 ·rw [hM]; exact h3.pE
theorem Nm {P:Program} {g:FuncId} {args:List D} {nx nx2 R T:Nat} {xZ objs2:List (Nat × Ob)} {kr:Nat->Nat} {φ:Nat × Nat->Bool} (hR:1<=R) (ho:qX P g) (hT:TI R T nx R kr (λi t=>φ (i,t)) nx2 xZ objs2)
  (h:xY P g args ⟨nx,xZ⟩ (.yD nx 1 R) ⟨nx2,objs2⟩):xY P g args ⟨nx,xZ⟩ (.sl 1 (yR R T φ)) ⟨nx,xZ⟩:=by
 refine xY.wC ho λhu=>xY.clean ?_;have n1:=hT.n1
 have h1:xY P g args ⟨nx,xZ⟩ (.yD nx 1 R) ⟨nx2,(nx,⟨1,yR R T φ⟩) :: r9 xZ⟩:=by
  refine xY.ret h (.inr ⟨λk=>k,by show nx<=nx2; omega,λ_ _=>rfl,?_,?_,λp _ q _ e=>e⟩)
  ·simp only [vw]; exact⟨by omega,trivial⟩
  ·intro p hp
   rcases ν.1 hp with rfl | hp
   ·refine⟨by show nx<nx2; omega,_,hT.lo,rfl,?_⟩;refine lU λi hi=>⟨by unfold vp; split <;> rfl,?_⟩;have hi':=γ.1 hi;obtain⟨b1,b2,b3⟩:=hT.lr i hi';unfold vp;rw [if_pos hi'];simp only [uR,vw,and_true]
    refine⟨trivial,by decide,λq hq=>?_,_,b3,rfl,by simp [jL],?_,?_⟩
    ·rcases ν.1 hq with rfl | hq
     ·show nx≠kr i; omega
     ·have:=(hu q.1 q.2 (oR hq)).1;simp only at this;omega
    ·rw [List.take_of_length_le (by simp [jL])]
    ·intro e he;simp only [jL,ε] at he;obtain⟨b,_,rfl⟩:=he;rfl
   ·have hl:=oR hp;obtain⟨u1,u2⟩:=hu p.1 p.2 hl;simp only at u1 u2;refine⟨by show p.1<nx2; omega,p.2,?_,rfl,gC λe he=>rQ (by show nx<=nx2; omega) (u2 e he)⟩;show St.look objs2 p.1=_;rw [hT.tV p.1 u1]; exact hl
 refine xY.ret h1 (.gone hu (λk o hk=>?_) ?_)
 ·have:=(hu k o hk).1;simp only at this;show St.look (_ :: _) k=_;rw [xX,if_neg (by omega),fZ]; exact hk
 ·simp only [vw]
  refine⟨trivial,by decide,λq hq=>?_,_,by rw [Y1,xX,if_pos rfl],rfl,by simp [yR],(jY (show R=(yR R T φ).length by simp [yR])).symm,?_⟩
  ·have:=(hu q.1 q.2 (oR hq)).1;simp only at this;omega
  ·intro e he;simp only [yR,ε] at he;obtain⟨b,_,rfl⟩:=he;rfl
theorem ak {nx kc:Nat} {xZ:List (Nat × Ob)} {rs:List xC} {A F T:Nat} {same:D} {g:FuncId} {caps:List D} {φ:Nat × Nat->Bool} (ok:kQ rs A F T)
  (hc:St.look xZ kc=some ⟨6,[[.int .i64 (A:Int),.int .i64 (F:Int),.int .i64 (T:Int),.sl 2 (wM rs),.sl 2 (mC (qF T (rs.length*T))),same]]⟩)
  (hcl:∀ nx1 objs1 i t,nx<=nx1->(∀ k,k<nx->St.look objs1 k=St.look xZ k)->i<rs.length->t<T->xY prog g ([.agg [.int .i64 (i:Int),.int .i64 (t:Int)]]++caps) ⟨nx1,objs1⟩ (.bool (φ (i,t))) ⟨nx1,objs1⟩) :
  xY prog 153 [.ref kc 6 0 0,.fn g caps] ⟨nx,xZ⟩ (.yD nx 1 rs.length) ⟨nx+1+rs.length,cS nx rs.length T φ++xZ⟩:=by
 obtain⟨T1,T16⟩:=ok.hT;obtain⟨R1,R64⟩:=ok.hR;refine xY.wC ⟨_,func153,by kernel_rfl,by kernel_rfl⟩ λhu=>xY.alike (objs':=cS nx rs.length T φ++r9 xZ) (λk=>by rw [mP,mP,fZ]) ?_;have hkc:=(hu kc _ hc).1;simp only at hkc;refine xY.xQ mixed func153 IL (by simp) λhf=>?_;have x1:¬ nx=kc:=by omega
 simp only [simprocAttr,-ZA,↓zU,↓zD,zV,zT,zW,hc,x1,wV]
 (repeat refine sd ?_)
 refine xO (λa:Nat × Nat × List (Nat × Ob)=>[(18,.int .i64 a.1),(17,.int .i64 rs.length),(5,.yD nx 1 rs.length),(1,.fn g caps),(0,.ref kc 6 0 0)]) (λa=>⟨a.2.1,a.2.2⟩)
  (λa=>a.1<=rs.length/\a.2.1<=nx+1+a.1/\∃ kr,TI rs.length T nx a.1 kr (λ_ _=>false) a.2.1 xZ a.2.2) (λa=>rs.length-a.1) (0,nx+1,(nx,⟨1,List.replicate rs.length [.xJ]⟩) :: xZ) ⟨Ah _,by simp,λ_=>0,?_⟩ ?_ ?_
 ·refine⟨by simp only; omega,λk hk=>by simp only; rw [xX,if_neg (by omega)],?_,λi h=>absurd h (Nat.not_lt_zero _),λi j h=>absurd h (Nat.not_lt_zero _)⟩;rw [Zh]; simp only; rw [xX,if_pos rfl]
 ·(refine xT.same ?_; simp [xR,Fr.get])
 intro ⟨r,nx1,objs1⟩ ⟨hr,hn1,kr,hT⟩;simp only at hr hn1 hT ⊢;refine xL mixed ?_
 by_cases hrl:r<rs.length
 ·have hd:((r:Int)<(rs.length:Int)):=by omega
  have n1:=hT.n1;have hc1:St.look objs1 kc=_:=(hT.tV kc hkc).trans hc;have lo:=hT.lo;have y1:¬ nx1=kc:=by omega
  have y2:¬ nx1=nx:=by omega
  simp only [simprocAttr,-ZA,↓zU,↓zD,zV,zT,zW,hd,hc1,lo,y1,y2,nG]
  (repeat refine sd ?_)
  have hset:(pU rs.length T kr r).set r (((pU rs.length T kr r).getD r []).set 0 (D.yD nx1 1 T))= pU rs.length T (λi=>if i=r then nx1 else kr i) (r+1):=by rw [Un hrl]; exact Uo
  rw [hset];refine⟨(r+1,?zna,?zoa),?ze1,?ze2,by show rs.length-(r+1)<rs.length-r; omega⟩
  case ze2=>
   (refine xT.same ?_; simp only [xR,Fr.get,simprocAttr,-ZA,zS])
   exact wrap_i64 (by omega)
  case ze1=>
   refine⟨by show r+1<=rs.length; omega,by show nx1+1<=nx+1+(r+1); omega,_,hT.row (n:=nx1) ⟨Ai _,Aj _⟩ (λk hk hk2=>?_) ?_ ?_⟩
   ·show St.look (_ :: _) _=_;rw [xX,if_neg (by omega),xU,if_neg (by omega)]
   ·show St.look (_ :: _) _=_;rw [xX,if_neg (by omega),xU,if_pos rfl,lo]; rfl
   ·show St.look (_ :: _) _=_;rw [xX,if_pos rfl];congr 2;exact(η (by simp [jL]) λk h1 h2=>by simp [jL])
 have hd:¬ ((r:Int)<(rs.length:Int)):=by omega
 obtain rfl:rs.length=r:=by omega
 have n1:=hT.n1;have hc1:St.look objs1 kc=_:=(hT.tV kc hkc).trans hc;have hin:Kv rs T (qF T (rs.length*T)):=xi T1 (Ai _);have hln:=tA T (rs.length*T);have hlg:∀ w,w<rs.length*T->(qF T (rs.length*T)).getD w (0,0)= (w / T,w % T):=λw h=>bf T h;have hRT:=ok.hP;generalize qF T (rs.length*T)= l at hc hc1 hin hln hlg;simp only [simprocAttr,-ZA,↓zU,↓zD,zV,zT,zW,hd,hc1,vD]
 refine wH (λa:Nat × Nat × List (Nat × Ob)=>[(36,.int .i64 a.1),(35,.int .i64 l.length),(34,.sl 2 (mC l)),(5,.yD nx 1 rs.length),(1,.fn g caps)]) (λa=>⟨a.2.1,a.2.2⟩)
  (λa=>a.1<=l.length/\a.2.1<=nx1+a.1/\nx1<=a.2.1/\∃ kr,TI rs.length T nx rs.length kr (λi t=>decide (i*T+t<a.1)&& φ (i,t)) a.2.1 xZ a.2.2) (λa=>l.length-a.1) (0,nx1,objs1) ⟨Ah _,by simp,Ai _,kr,?_⟩ ?_ ?_
 ·have:(λi t=>decide (i*T+t<0)&& φ (i,t))= λ_ _=>false:=by funext i t; simp
  rw [this]; exact hT
 ·(refine xT.same ?_; simp [xR,Fr.get])
 clear hT hc1 n1;intro ⟨w,nx2,objs2⟩ ⟨hw,hn2,hn3,kr,hT⟩;simp only at hw hn2 hn3 hT ⊢;have n1:=hT.n1;refine xL mixed ?_
 by_cases hwl:w<l.length
 ·have hd3:((w:Int)<(l.length:Int)):=by omega
  have hp:=hin _ (xK (d:=(0,0)) hwl);have hpg:=fD l hwl;have hpe:=hlg w (by omega);have hwe:(w / T)* T+w % T=w:=by rw [Ak]; exact Nat.div_add_mod w T
  rw [hpe] at hp hpg;generalize w / T=i at hp hpg hwe;generalize w % T=t at hp hpg hwe;simp only at hp hpg;obtain⟨hp1,hp2⟩:=hp;obtain⟨a1,a2,a3⟩:=hT.lr i hp1;have lo:=hT.lo;have hrow:=yt (T:=T) (kr:=kr) hp1 hp1;have hk1:=hcl (nx2+1) ((nx2,⟨2,[[.int .i64 i,.int .i64 t]]⟩) :: objs2) i t (by omega) (λk hk=>by rw [xX,if_neg (by omega),hT.tV k hk]) hp1 hp2;simp only [Ag,List.nil_append] at hk1;have y1:¬ nx2=nx:=by omega
  have y2:¬ nx2=kr i:=by omega
  have hrl:∀ v:List Bool,(jL v).length=v.length:=λv=>by simp [jL]
  simp only [simprocAttr,-ZA,↓zU,↓zD,zV,zT,zW,hd3,vD,hpg,lo,a3,hrow,nG,hrl,ο,μ,y1,y2]
  (repeat refine sd ?_)
  refine .go hk1 ?_;simp only [simprocAttr,-ZA,↓zU,↓zD,zV,zT,zW,a3,y1,y2,hrl,ο,μ]
  (repeat refine sd ?_)
  have hset:(jL (List.map (λt=>decide (i*T+t<w)&& φ (i,t)) (List.range T))).set t (((jL (List.map (λt=>decide (i*T+t<w)&& φ (i,t)) (List.range T))).getD t []).set 0 (D.bool (φ (i,t))))= jL (List.map (λt=>decide (i*T+t<w+1)&& φ (i,t)) (List.range T)):=by
   have hg:(jL (List.map (λt=>decide (i*T+t<w)&& φ (i,t)) (List.range T))).getD t [] = [.bool (decide (i*T+t<w)&& φ (i,t))]:=by simp [jL,List.getD,hp2]
   rw [hg];refine η (by simp [jL]) λk h1 h2=>?_;rw [ω]
   by_cases e:t=k
   ·subst e;rw [if_pos rfl];simp [jL,hwe]
   ·rw [if_neg e]
    have:decide (i*T+k<w)= decide (i*T+k<w+1):=by rw [Bool.eq_iff_iff,decide_eq_true_iff,decide_eq_true_iff]; omega
    simp only [jL,ξ,τ,this]
  rw [hset];refine⟨(w+1,?znb,?zob),?zg1,?zg2,by show l.length-(w+1)<l.length-w; omega⟩
  case zg2=>
   (refine xT.same ?_; simp only [xR,Fr.get,simprocAttr,-ZA,zS])
   exact wrap_i64 (by omega)
  case zg1=>
   refine⟨by show w+1<=l.length; omega,by show nx2+1<=nx1+(w+1); omega,by show nx1<=nx2+1; omega,kr,hT.Kr (Nat.le_succ _) hp1 (λj u hj hu hne=>?_) (λk hk hk2=>?_) ?_⟩
   ·have hne':j*T+u≠w:=λe=>hne (by
     have h1:(j*T+u)/ T=j:=by rw [Ak,An (by omega),Al hu]; rfl
     have h2:(i*T+t)/ T=i:=by rw [Ak,An (by omega),Al hp2]; rfl
     rw [e] at h1;rw [hwe] at h2;omega)
    have:decide (j*T+u<w)= decide (j*T+u<w+1):=by rw [Bool.eq_iff_iff,decide_eq_true_iff,decide_eq_true_iff]; omega
    simp only [this]
   ·show St.look (_ :: _) _=_;rw [xX,if_neg (by omega),xU,if_neg (λe=>hk2 e.symm)]
   ·show St.look (_ :: _) _=_;rw [xX,if_neg (by omega),xU,if_pos rfl,a3]; rfl
 have hd3:¬ ((w:Int)<(l.length:Int)):=by omega
 have hv:∀ i t,i<rs.length->t<T->(decide (i*T+t<w)&& φ (i,t))= φ (i,t):=λi t hi ht=>by have:=Nat.mul_le_mul_right T (show i+1<=rs.length from hi);rw [Nat.succ_mul] at this;rw [decide_eq_true (by omega)]; rfl
 simp only [simprocAttr,-ZA,↓zU,↓zD,zV,zT,zW,hd3];refine .yJ ?_;simp only [simprocAttr,-ZA,↓zU,↓zD,zV,zT,zW];have hlow:∀ k,k<nx->(if nx+1<=k/\k<nx+1+rs.length then kr (k-(nx+1)) else k)= k:=λk hk=>if_neg (by omega)
 refine .inr ⟨λk=>if nx+1<=k/\k<nx+1+rs.length then kr (k-(nx+1)) else k,by show nx<=nx+1+rs.length; omega,hlow,?_,?_,?_⟩
 ·simp only [vw];exact⟨by omega,by rw [if_neg (by omega)]⟩
 ·intro p hp
  rcases List.mem_append.1 hp with hp | hp
  ·unfold cS at hp
   rcases ν.1 hp with rfl | hp
   ·refine⟨by show nx<nx+1+rs.length; omega,⟨1,pU rs.length T kr rs.length⟩,?_,rfl,lU λi hi=>⟨?_,?_⟩⟩
    ·show St.look objs2 (if _ then _ else _)= _;rw [if_neg (by simp only; omega)]; exact hT.lo
    ·unfold vp; split <;> rfl
    ·have hi':=γ.1 hi;unfold vp;rw [if_pos hi'];simp only [uR,vw,and_true];refine⟨by omega,?_⟩;rw [if_pos (by omega),show nx+1+i-(nx+1)= i by omega]
   ·simp only [ε,γ] at hp;obtain⟨i,hi,rfl⟩:=hp;obtain⟨b1,b2,b3⟩:=hT.lr i hi
    refine⟨by show nx+1+i<nx+1+rs.length; omega,_,?_,rfl,.same ?_⟩
    ·show St.look objs2 (if _ then _ else _)= _;rw [if_pos (by simp only; omega),show nx+1+i-(nx+1)= i by omega,b3];congr 3;exact δ λt ht=>hv i t hi (γ.1 ht)
    ·intro e he;simp only [jL,ε] at he;obtain⟨b,_,rfl⟩:=he;rfl
  ·have hl:=oR hp;obtain⟨u1,u2⟩:=hu p.1 p.2 hl;simp only at u1 u2
   refine⟨by show p.1<nx+1+rs.length; omega,p.2,?_,rfl,?_⟩
   ·show St.look objs2 (if _ then _ else _)= _;rw [hlow p.1 u1,hT.tV p.1 u1]; exact hl
   ·have hself:∀ xV:List (List D),(∀ e ∈ xV,D.vA nx e)->s9 ⟨nx2,objs2⟩ ⟨nx+1+rs.length,cS nx rs.length T φ++r9 xZ⟩ (λk=>if nx+1<=k/\k<nx+1+rs.length then kr (k-(nx+1)) else k) xV xV:=λxV he=>WZ (n:=nx) (by show nx<=nx+1+rs.length; omega) hlow he;exact hself _ u2
 ·intro p hp q hq e
  have hin:∀ p ∈ cS nx rs.length T φ++r9 xZ,p.1<nx+1+rs.length:=λp hp=>by
   rcases List.mem_append.1 hp with hp | hp
   ·unfold cS at hp
    rcases ν.1 hp with rfl | hp
    ·show nx<_; omega
    ·simp only [ε,γ] at hp;obtain⟨i,hi,rfl⟩:=hp;show nx+1+i<_; omega
   ·have:=(hu p.1 p.2 (oR hp)).1;simp only at this;omega
  have h1:=hin p hp;have h2:=hin q hq;simp only at e
  split at e <;> split at e
  ·have:=hT.dr _ _ (by omega) (by omega) e;omega
  ·have:=(hT.lr (p.1-(nx+1)) (by omega)).1;omega
  ·have:=(hT.lr (q.1-(nx+1)) (by omega)).1;omega
  ·exact e
theorem iX {nx kc:Nat} {xZ:List (Nat × Ob)} {rs:List xC} {A F T:Nat} {same:D} {g:FuncId} {caps:List D} {φ:Nat × Nat->Bool} (ok:kQ rs A F T)
  (hc:St.look xZ kc=some ⟨6,[[.int .i64 (A:Int),.int .i64 (F:Int),.int .i64 (T:Int),.sl 2 (wM rs),.sl 2 (mC (qF T (rs.length*T))),same]]⟩)
  (hcl:∀ nx1 objs1 i t,nx<=nx1->(∀ k,k<nx->St.look objs1 k=St.look xZ k)->i<rs.length->t<T->xY prog g ([.agg [.int .i64 (i:Int),.int .i64 (t:Int)]]++caps) ⟨nx1,objs1⟩ (.bool (φ (i,t))) ⟨nx1,objs1⟩) :
  xY prog 153 [.ref kc 6 0 0,.fn g caps] ⟨nx,xZ⟩ (.sl 1 (yR rs.length T φ)) ⟨nx,xZ⟩:=
 Nm (ok.hR.1) ⟨_,func153,by kernel_rfl,by kernel_rfl⟩ (TI.start (xZ:=xZ)) (ak ok hc hcl)
end
section
open Rs Fm Ru Te
theorem Oy {nx:Nat} {xZ:List (Nat × Ob)} {i t:Nat}:xY prog 206 [.agg [.int .i64 (i:Int),.int .i64 (t:Int)]] ⟨nx,xZ⟩ (.bool true) ⟨nx,xZ⟩:=by refine xY.wC ⟨_,func206,by kernel_rfl,by kernel_rfl⟩ λhu=>xY.clean ?_;refine xY.xQ mixed func206 J0 (by simp) λhf=>?_;simp only [simprocAttr,-ZA,↓zU,↓zD,zV,zT,zW];refine .gone hu (λk o hk=>?_) (by simp only [vw]);have:=(hu k o hk).1;simp only at this;show St.look (_ :: _) k=_;rw [xX,if_neg (by omega)]; exact hk
theorem Ox {nx:Nat} {xZ:List (Nat × Ob)} {i t:Nat}:xY prog 208 [.agg [.int .i64 (i:Int),.int .i64 (t:Int)]] ⟨nx,xZ⟩ (.bool true) ⟨nx,xZ⟩:=by refine xY.wC ⟨_,func208,by kernel_rfl,by kernel_rfl⟩ λhu=>xY.clean ?_;refine xY.xQ mixed func208 J2 (by simp) λhf=>?_;simp only [simprocAttr,-ZA,↓zU,↓zD,zV,zT,zW];refine .gone hu (λk o hk=>?_) (by simp only [vw]);have:=(hu k o hk).1;simp only at this;show St.look (_ :: _) k=_;rw [xX,if_neg (by omega)]; exact hk
theorem Q8 {nx:Nat} {xZ:List (Nat × Ob)} {i t:Nat}:xY prog 211 [.agg [.int .i64 (i:Int),.int .i64 (t:Int)]] ⟨nx,xZ⟩ (.bool false) ⟨nx,xZ⟩:=by refine xY.wC ⟨_,func211,by kernel_rfl,by kernel_rfl⟩ λhu=>xY.clean ?_;refine xY.xQ mixed func211 J5 (by simp) λhf=>?_;simp only [simprocAttr,-ZA,↓zU,↓zD,zV,zT,zW];refine .gone hu (λk o hk=>?_) (by simp only [vw]);have:=(hu k o hk).1;simp only at this;show St.look (_ :: _) k=_;rw [xX,if_neg (by omega)]; exact hk
end
section
open Rs Fm Ru Te
namespace Te
theorem wR (R T:Nat) (φ:Nat × Nat->Bool):(yR R T φ).length=R:=by simp [yR]
theorem vJ {R T:Nat} {φ:Nat × Nat->Bool} {i:Nat} (h:i<R):(yR R T φ).getD i [] = [.sl 1 (jL ((List.range T).map λt=>φ (i,t)))]:=by simp [yR,List.getD,h]
theorem tP {T i t:Nat} {φ:Nat × Nat->Bool} (h:t<T):(jL ((List.range T).map λt=>φ (i,t))).getD t [] = [.bool (φ (i,t))]:=by simp [jL,List.getD,h]
theorem vO (l:List Bool):(jL l).length=l.length:=by simp [jL]
end Te
theorem N2 {nx kx:Nat} {xZ:List (Nat × Ob)} {R T:Nat} {φ:Nat × Nat->Bool} (hR:R<=1000) (hT:T<=1000) (hx:St.look xZ kx=some ⟨1,[[.sl 1 (yR R T φ)]]⟩) {i t:Nat} (hi:i<R) (ht:t<T) :
  xY prog 154 ([.agg [.int .i64 (i:Int),.int .i64 (t:Int)]] ++ [.ref kx 1 0 0]) ⟨nx,xZ⟩ (.bool (!φ (i,t))) ⟨nx,xZ⟩:=by
 refine xY.wC ⟨_,func154,by kernel_rfl,by kernel_rfl⟩ λhu=>xY.clean ?_;have hk:=(hu kx _ hx).1;simp only at hk;have y1:¬ nx=kx:=by omega
 have g1:=vJ (T:=T) (φ:=φ) hi;have g2:=tP (i:=i) (φ:=φ) ht;refine xY.xQ mixed func154 IM (by simp) λhf=>?_;simp only [simprocAttr,-ZA,↓zU,↓zD,zV,zT,zW,hx,y1,wR,g1,vO,ο,μ,g2]
 (repeat refine sd ?_)
 refine .gone hu (λk o hk=>?_) (by simp only [vw]);have:=(hu k o hk).1;simp only at this;show St.look (_ :: _) k=_;rw [xX,if_neg (by omega)]; exact hk
end
section
open Rs Fm Ru Te
namespace Te
def NB (T:Nat) (s:Int) (φ:Nat × Nat->Bool) (p:Nat × Nat):Bool:=decide (0<=(p.2:Int)+ s)&& (decide ((p.2:Int)+ s<T)&& φ (p.1,((p.2:Int)+ s).toNat))
end Te
theorem Rb {nx k5 k3 k4 kc:Nat} {xZ:List (Nat × Ob)} {rs:List xC} {A F T:Nat} {l:List (Nat × Nat)} {same:D} {φ:Nat × Nat->Bool} {s:Int} (ok:kQ rs A F T) (hs:-1<=s/\s<=1)
  (h5:St.look xZ k5=some ⟨1,[[.int .i64 s]]⟩) (h3:St.look xZ k3=some ⟨1,[[.ref kc 6 0 0]]⟩) (h4:St.look xZ k4=some ⟨1,[[.sl 1 (yR rs.length T φ)]]⟩)
  (hc:St.look xZ kc=some ⟨6,[[.int .i64 (A:Int),.int .i64 (F:Int),.int .i64 (T:Int),.sl 2 (wM rs),.sl 2 (mC l),same]]⟩) {i t:Nat} (hi:i<rs.length) (ht:t<T) :
  xY prog 210 ([.agg [.int .i64 (i:Int),.int .i64 (t:Int)]] ++ [.ref k5 1 0 0,.ref k3 1 0 0,.ref k4 1 0 0]) ⟨nx,xZ⟩ (.bool (NB T s φ (i,t))) ⟨nx,xZ⟩:=by
 obtain⟨T1,T16⟩:=ok.hT;refine xY.wC ⟨_,func210,by kernel_rfl,by kernel_rfl⟩ λhu=>xY.clean ?_;have y5:¬ nx=k5:=by have:=(hu k5 _ h5).1; simp only at this; omega
 have y3:¬ nx=k3:=by have:=(hu k3 _ h3).1; simp only at this; omega
 have y4:¬ nx=k4:=by have:=(hu k4 _ h4).1; simp only at this; omega
 have yc:¬ nx=kc:=by have:=(hu kc _ hc).1; simp only at this; omega
 have hkeep:∀ (ob:Ob) k o,St.look xZ k=some o->St.get ⟨nx+1,(nx,ob) :: xZ⟩ k=some o:=λob k o hk=>by have:=(hu k o hk).1;simp only at this;show St.look (_ :: _) k=_;rw [xX,if_neg (by omega)]; exact hk
 have hw:IntKind.i64.wrap ((t:Int)+ s)= (t:Int)+ s:=wrap_i64 (by omega);have g1:=vJ (T:=T) (φ:=φ) hi;unfold NB;simp only;refine xY.xQ mixed func210 J4 (by simp) λhf=>?_;by_cases e1:0<=(t:Int)+ s
 case neg=> simp only [simprocAttr,-ZA,↓zU,↓zD,zV,zT,zW,h5,y5,hw,e1];exact .gone hu (hkeep _) (by simp [vw])
 by_cases e2:(t:Int)+ s<(T:Int)
 case neg=> simp only [simprocAttr,-ZA,↓zU,↓zD,zV,zT,zW,h5,h3,hc,y5,y3,yc,hw,e1,e2];exact .gone hu (hkeep _) (by simp [vw])
 obtain⟨u,hu2⟩:=Ar e1;rw [hu2] at hw e1 e2 ⊢;have g2:=tP (i:=i) (φ:=φ) (show u<T by omega);simp only [simprocAttr,-ZA,↓zU,↓zD,zV,zT,zW,h5,h3,h4,hc,y5,y3,y4,yc,hw,hu2,e1,e2,wR,g1,vO,ο,μ,g2]
 (repeat refine sd ?_)
 exact .gone hu (hkeep _) (by simp only [vw])
end
section
open Rs Fm Ru Te
theorem WL {nx kc:Nat} {xZ:List (Nat × Ob)} {rs:List xC} {A F T:Nat} {same:D} {φ:Nat × Nat->Bool} {s:Int} (ok:kQ rs A F T) (hs:-1<=s/\s<=1)
  (hc:St.look xZ kc=some ⟨6,[[.int .i64 (A:Int),.int .i64 (F:Int),.int .i64 (T:Int),.sl 2 (wM rs),.sl 2 (mC (qF T (rs.length*T))),same]]⟩) :
  xY prog 163 [.ref kc 6 0 0,.sl 1 (yR rs.length T φ),.int .i64 s] ⟨nx,xZ⟩ (.sl 1 (yR rs.length T (NB T s φ))) ⟨nx,xZ⟩:=by
 refine xY.wC ⟨_,func163,by kernel_rfl,by kernel_rfl⟩ λhu=>xY.clean ?_;have hkc:=(hu kc _ hc).1;simp only at hkc
 have hkeep:∀ (a b c:Ob) k o,St.look xZ k=some o->St.look ((nx+1+1,a) :: (nx+1,b) :: (nx,c) :: xZ) k=some o:=λa b c k o hk=>by have:=(hu k o hk).1;simp only at this;rw [xX,if_neg (by omega),xX,if_neg (by omega),xX,if_neg (by omega)]; exact hk
 have hfill:=iX (nx:=nx+1+1+1) (kc:=kc) (xZ:=(nx+1+1,⟨1,[[.int .i64 s]]⟩) :: (nx+1,⟨1,[[.sl 1 (yR rs.length T φ)]]⟩) :: (nx,⟨1,[[.ref kc 6 0 0]]⟩) :: xZ) (g:=210) (caps:=[.ref (nx+1+1) 1 0 0,.ref nx 1 0 0,.ref (nx+1) 1 0 0]) (φ:=NB T s φ) ok (hkeep _ _ _ _ _ hc) (λnx1 objs1 i t h1 h2 hi ht=> Rb ok hs (by rw [h2 _ (by omega),xX,if_pos rfl]) (by rw [h2 _ (by omega),xX,if_neg (by omega),xX,if_neg (by omega),xX,if_pos rfl]) (by rw [h2 _ (by omega),xX,if_neg (by omega),xX,if_pos rfl]) (by rw [h2 _ (by omega)]; exact hkeep _ _ _ _ _ hc) hi ht)
 refine xY.xQ mixed func163 IZ (by simp) λhf=>?_;have y1:¬ nx+1=nx:=by omega
 have y2:¬ nx+1+1=nx:=by omega
 simp only [simprocAttr,-ZA,↓zU,↓zD,zV,zT,zW,y1,y2]
 (repeat refine sd ?_)
 refine .go hfill ?_;simp only [simprocAttr,-ZA,↓zU,↓zD,zV,zT,zW];exact .gone hu (hkeep _ _ _) (by simp only [vw]; exact⟨trivial,trivial⟩)
end
end Go.Pd
