/- Part SC. -/
import Derived.Test.YtndfaefmmcoapaaGreatGeP7
import Derived.Test.YtndfaefmmcoapaaGreatGeX6
import Derived.Shelf.SlSortCmp.NoneTotal
import Derived.Test.YtndfaefmmcoapaaGreatGeKA
set_option linter.unusedSectionVars false
set_option linter.unusedVariables false
set_option linter.unusedSimpArgs false
set_option linter.defProp false
set_option maxRecDepth 20000
set_option maxHeartbeats 1000000
open Go.Proofs.Tryz
open List renaming drop_eq_nil_of_le->γ,map_congr_left->δ,length_append->ε,ext_getElem->ζ,mem_map->η,any_eq_false->θ,length_take->κ,length_cons->μ,pairwise_iff_getElem->ν,map_map->ξ,map_id->ο,length_pos_iff->π,take_length->τ,getElem_map->υ,filter_cons->χ
open Nat renaming zero_le->ψ,le_refl->ω,lt_succ_self->Aa,mul_one->Ab,lt_of_lt_of_le->Ac
open Array renaming getElem?_append_left->Ad,getElem?_eq_some_iff->Ae,getElem?_modify->Af,ext_getElem?->Ag
open Int renaming toNat_natCast->Ah
namespace Go.Pd
open Go Go.Proofs
open BitVec renaming isValue -> ZA
open Ru
namespace Ru
def rG : List Int->List Int->Int
 | [],[]=>0
 | [],_ :: _=>-1
 | _ :: _,[]=>1
 | x :: a,y :: b=>if x<y then -1 else if y<x then 1 else rG a b
theorem fm : ∀ a:List Int,rG a a=0
 | []=>rfl
 | x :: a=>by unfold rG; rw [if_neg (by omega),if_neg (by omega)]; exact fm a
theorem mz : ∀ a b:List Int,rG a b = -1\/rG a b=0\/rG a b=1
 | [],[]=>.inr (.inl rfl)
 | [],_ :: _=>.inl rfl
 | _ :: _,[]=>.inr (.inr rfl)
 | x :: a,y :: b=>by
  unfold rG
  split
  ·exact .inl rfl
  ·split
   ·exact .inr (.inr rfl)
   ·exact mz a b
theorem fp : ∀ {a b:List Int},rG a b=0->a=b
 | [],[],_=>rfl
 | [],_ :: _,h=>by simp [rG] at h
 | _ :: _,[],h=>by simp [rG] at h
 | x :: a,y :: b,h=>by
  unfold rG at h
  split at h
  ·omega
  ·split at h
   ·omega
   ·rw [fp h,show x=y by omega]
theorem fj : ∀ a b:List Int,rG b a =-rG a b
 | [],[]=>rfl
 | [],_ :: _=>rfl
 | _ :: _,[]=>rfl
 | x :: a,y :: b=>by
  unfold rG
  by_cases h1:x<y
  ·rw [if_pos h1,if_neg (by omega),if_pos h1]; rfl
  ·by_cases h2:y<x
   ·rw [if_pos h2,if_neg h1,if_pos h2]
   ·rw [if_neg h2,if_neg h1,if_neg h1,if_neg h2]; exact fj a b
theorem nc : ∀ {a b c:List Int},rG a b<0->rG b c<0->rG a c<0
 | [],[],_,h,_=>by simp [rG] at h
 | [],_ :: _,[],_,h=>by simp [rG] at h
 | [],_ :: _,_ :: _,_,_=>by simp [rG]
 | _ :: _,[],_,h,_=>by simp [rG] at h
 | _ :: _,_ :: _,[],_,h=>by simp [rG] at h
 | x :: a,y :: b,z :: c,h1,h2=>by
  unfold rG at h1 h2 ⊢
  by_cases hxy:x<y
  ·by_cases hyz:z<y
   ·rw [if_neg (by omega),if_pos hyz] at h2; omega
   ·rw [if_pos (by omega)]; omega
  ·rw [if_neg hxy] at h1
   by_cases hyx:y<x
   ·rw [if_pos hyx] at h1; omega
   ·rw [if_neg hyx] at h1
    by_cases hyz:y<z
    ·rw [if_pos (by omega)]; omega
    ·rw [if_neg hyz] at h2
     by_cases hzy:z<y
     ·rw [if_pos hzy] at h2; omega
     ·rw [if_neg hzy] at h2;rw [if_neg (by omega),if_neg (by omega)];exact nc h1 h2
theorem Qa (b:List Int):rG [] b=if b.length=0 then 0 else -1:=by cases b <;> rfl
def kc (a b:List Int):Int:=if a.length<b.length then -1 else if b.length<a.length then 1 else rG a b
theorem dS (a:List Int):kc a a=0:=by unfold kc; rw [if_neg (by omega),if_neg (by omega)]; exact fm a
theorem Yv (a b:List Int):kc a b = -1\/kc a b=0\/kc a b=1:=by
 have:=mz a b
 unfold kc; split
 ·exact .inl rfl
 ·split
  ·exact .inr (.inr rfl)
  ·exact this
theorem iC {a b:List Int} (h:kc a b=0):a=b:=by
 unfold kc at h
 split at h
 ·omega
 ·split at h
  ·omega
  ·exact fp h
theorem mQ (a b:List Int):kc b a =-kc a b:=by
 have:=fj a b;unfold kc
 by_cases h1:a.length<b.length
 ·rw [if_neg (by omega),if_pos h1,if_pos h1]; rfl
 ·by_cases h2:b.length<a.length
  ·rw [if_pos h2,if_neg h1,if_pos h2]
  ·rw [if_neg h2,if_neg h1,if_neg h1,if_neg h2]; exact this
theorem pg {a b c:List Int} (h1:kc a b<0) (h2:kc b c<0):kc a c<0:=by
 have:=@nc a b c;unfold kc at h1 h2 ⊢
 by_cases x1:a.length<c.length
 ·rw [if_pos x1]; omega
 rw [if_neg x1]
 by_cases y1:a.length<b.length
 ·rw [if_neg (by omega),if_pos (by omega)] at h2; omega
 ·rw [if_neg y1] at h1
  by_cases y2:b.length<a.length
  ·rw [if_pos y2] at h1; omega
  ·rw [if_neg y2] at h1;rw [if_neg (by omega)] at h2
   by_cases y3:c.length<b.length
   ·rw [if_pos y3] at h2; omega
   ·rw [if_neg y3] at h2;rw [if_neg (by omega)];exact this h1 h2
theorem cN {a b c:List Int} (h1:¬ kc a b<0) (h2:¬ kc b c<0):¬ kc a c<0:=by
 intro h
 by_cases e1:kc a b=0
 ·rw [iC e1] at h; exact h2 h
 ·by_cases e2:kc b c=0
  ·rw [<- iC e2] at h; exact h1 h
  ·have r1:=Yv a b;have r2:=Yv b c;have a1:=mQ a b;have a2:=mQ b c;have a3:=mQ a c;have:=pg (a:=c) (b:=b) (c:=a) (by omega) (by omega);omega
end Ru
theorem NP (a:Int):xA prog 225 [.int .i64 a] (.bool false):=by refine xI func225 JQ λhf=>?_;refine xJ ?_;exact .same
theorem KJ (a b:Int):xA prog 185 [.int .i64 a,.int .i64 b] (.int .i64 (if a<b then -1 else if b<a then 1 else 0)):=by
 refine xI func185 Ix λhf=>?_;refine xJ ?_;refine .go (cq (NP a)) ?_;refine xJ ?_;refine .go (cq (NP b)) ?_
 by_cases h1:a<b
 ·refine xH h1 ?_;exact .same
 ·by_cases h2:b<a
  ·refine yO h1 h2 ?_;exact .same
  ·refine yO h1 h2 ?_;exact .same
theorem Wh (x:Int) (a:List Int):rG (x :: a) []=1:=rfl
theorem fk (x y:Int) (a b:List Int):rG (x :: a) (y :: b)= if x<y then -1 else if y<x then 1 else rG a b:=rfl
theorem O0 (a b:List Int):xA prog 87 [.sl 1 (rows .i64 a),.sl 1 (rows .i64 b)] (.bool (decide (a=b))):=by
 refine xI func87 Fo λhf=>?_;simp only [D.sR,D.fact,yU] at hf;have hlen:=hf.1.1;by_cases h1:a.length=b.length
 case neg=>
  have h1':((a.length:Int) != (b.length:Int))= true:=by simp; omega
  refine xH h1' ?_;exact .drop (by simp) (by simp only [vw,D.bool.injEq]; symm; apply decide_eq_false; rintro rfl; exact h1 rfl)
 have h1':((a.length:Int) != (b.length:Int))= false:=by simp; omega
 refine xH h1' ?_
 refine xU (λk:Nat=>[(13,.int .i64 k),(12,.int .i64 a.length),(1,.sl 1 (rows .i64 b)),(0,.sl 1 (rows .i64 a))]) (λ_=>⟨0,[]⟩) (λk=>k<=a.length/\∀ i,i<k->a.getD i 0=b.getD i 0) (λk=>a.length-k) 0 ⟨ψ _,λi hi=>by omega⟩ ?_ ?_
 ·exact wO
 intro k ⟨hk,hi⟩;refine xN mixed ?_
 by_cases h:k<a.length
 ·have hd:((k:Int)<(a.length:Int)):=by omega
  by_cases hb:a.getD k 0=b.getD k 0
  ·have hb1:(a.getD k 0 != b.getD k 0)= false:=by simp only [hb,bne_self_eq_false]
   simp only [simprocAttr,-ZA,↓zU,↓zD,zV,zT,zW,hd,wU _ _ h,wU .i64 b (show k<b.length by omega),hb1]
   (repeat refine sd ?_)
   refine⟨k+1,⟨by omega,λi hi2=>?_⟩,?_,by omega⟩
   ·by_cases ei:i=k
    ·rw [ei,hb]
    ·exact hi i (by omega)
   exact yL
  ·have hb1:(a.getD k 0 != b.getD k 0)= true:=bne_iff_ne.2 hb;simp only [simprocAttr,-ZA,↓zU,↓zD,zV,zT,zW,hd,wU _ _ h,wU .i64 b (show k<b.length by omega),hb1]
   (repeat refine sd ?_)
   exact .drop (by simp) (by simp only [vw,D.bool.injEq]; symm; apply decide_eq_false; rintro rfl; exact hb rfl)
 ·have hd:¬ ((k:Int)<(a.length:Int)):=by omega
  have hk':k=a.length:=by omega
  subst hk';refine xH hd ?_;refine .drop (by simp) ?_;simp only [vw,D.bool.injEq]; symm; apply decide_eq_true;refine ζ h1 λi h2 h3=>?_;have:=hi i h2;simpa [List.getD,h2,h3] using this
theorem Jq (x y:Int):xA prog 184 [.sl 1 (rows .i64 [x,y])] (.int .i64 (if x≠0 then x else y)):=by
 refine xI func184 Iy λhf=>?_;refine xJ ?_
 refine xU (λk:Nat=>[(8,.int .i64 k),(7,.int .i64 2),(6,.sl 1 (rows .i64 [x,y])),(3,.int .i64 0)]) (λ_=>⟨0,[]⟩) (λk=>k<=2/\(0<k->x=0)/\ (1<k->y=0)) (λk=>2-k) 0 ⟨by omega,by omega,by omega⟩ ?_ ?_
 ·(refine yR.same ?_; simp [yS,Fr.get,rows])
 intro k ⟨hk,h0,h1⟩;refine xN mixed ?_
 obtain rfl | rfl | rfl:k=0\/k=1\/k=2:=by omega
 ·by_cases e:x=0
  ·have e':(x != 0)= false:=by simpa using e
   refine vR e' ?_;exact⟨1,⟨by omega,λ_=>e,by omega⟩,by(refine yR.same ?_; simp only [yS,Fr.get,simprocAttr,-ZA,zS]); rfl,by omega⟩
  ·have e':(x != 0)= true:=by simpa using e
   refine vR e' ?_;rw [if_pos e];exact .same
 ·have e0:=h0 (by omega);have c1:((1:Nat):Int)= 1:=rfl
  by_cases e:y=0
  ·have e':(y != 0)= false:=by simpa using e
   refine nQ e' c1 ?_;exact⟨2,⟨by omega,λ_=>e0,λ_=>e⟩,by(refine yR.same ?_; simp only [yS,Fr.get,simprocAttr,-ZA,zS]); rfl,by omega⟩
  ·have e':(y != 0)= true:=by simpa using e
   refine nQ e' c1 ?_;rw [if_neg (by omega)];exact .same
 ·have e0:=h0 (by omega);have e1:=h1 (by omega);have c1:((2:Nat):Int)= 2:=rfl;refine xH c1 ?_;rw [if_neg (by omega),e1];exact .same
end Go.Pd

/- Part X7. -/
namespace Go.Pd
open Go Go.Proofs Go.Shelf Go.Sort
variable [tP]
def uP (M:Nat->Prop) (w:World) (C:D->Prop):Type:={ p:Value × D // RP M w p.1 p.2/\p.1.oneCell'=true/\C p.2 }
theorem tt {α:Type} [Inhabited α] (nC:α->Value) (w:World) (fO off m:Nat) (d:Array α) (os:Array Obj) {b:Nat} (hb:b<w.heap.size) (hn:b≠fO):(sortWorld nC w fO off m d os).heap[b]?=w.heap[b]?:=by show (((Sort.ahead w m).heap.modify fO (onCells (putCells nC off d)))++ os)[b]?=_;rw [Ad (by simpa using hb),Af,if_neg (λe=>hn e.symm)];rfl
theorem lj {α:Type} [Inhabited α] (nC:α->Value) (w:World) (fO off m:Nat) (d:Array α) (os:Array Obj):w.heap.size<=(sortWorld nC w fO off m d os).heap.size:=by show w.heap.size<=(((Sort.ahead w m).heap.modify fO (onCells (putCells nC off d)))++ os).size;simp [Sort.ahead]
theorem p8 {α:Type} [Inhabited α] (nC:α->Value) (w:World) (fO off m:Nat) (d:Array α) (os:Array Obj) {cur:Array Value} {e:TypeId} {fr:Nat × Nat} (hc:w.heap[fO]?=some (Obj.cells cur e fr)) :
  sortWorld nC w fO off m d os=grow ((w.setRow fO (putCells nC off d cur)).drewN m) os:=by
 unfold sortWorld;congr 1;unfold putRow mapBlock Sort.ahead World.drewN World.setRow;congr 1;apply Ag;intro k;simp only [Af]
 by_cases hk:fO=k
 ·subst hk;simp only [if_true,hc,Option.map_some,onCells]
 ·simp [hk]
theorem Wg {w w':World} (h:Kept w w' λ_=>False):∃ q os,w'=grow (w.drewN q) os:=by
 refine⟨w'.drawn-w.drawn,w'.heap.extract w.heap.size w'.heap.size,?_⟩;have hd:=h.drawn;have hs:=h.size;obtain⟨heap,tape,drawn,os,output⟩:=w;obtain⟨heap',tape',drawn',os',output'⟩:=w';have h1:=h.os;have h2:=h.tape;have h3:=h.output;have h4:=h.block;simp only at h1 h2 h3 h4 hd hs;subst h1; subst h2; subst h3;unfold grow World.drewN;simp only [World.mk.injEq,and_true,true_and];refine⟨?_,by omega⟩;apply Ag;intro i
 by_cases hi:i<heap.size
 ·rw [Ad hi,h4 i hi id]
 ·rw [Array.getElem?_append_right (by omega),Array.getElem?_extract]
  by_cases h2:i<heap'.size
  ·rw [if_pos (by omega)];congr 1; omega
  ·rw [if_neg (by omega)];exact Array.getElem?_eq_none (by omega)
theorem Tz {w:World} (q:Nat) (os:Array Obj):Kept w (grow (w.drewN q) os) λ_=>False:=by
 refine⟨rfl,rfl,rfl,by simp [World.drewN],λb hb _=>?_,λb cur e h=>⟨cur,?_,rfl⟩,by show w.drawn<=w.drawn+q; omega⟩
 ·show (w.heap++os)[b]?=_;rw [Ad hb]
 ·have hb:b<w.heap.size:=(Ae.1 h).1;show (w.heap++os)[b]?=_;rw [Ad hb];exact h
def hd (e:List D):D:=e.getD 0 .top
def VI (cf:D->D->Int) (xW:List (List D)):Prop:=∀ i j,i<j->j<xW.length->¬ cf (hd (xW.getD j [])) (hd (xW.getD i []))<0
def uP.nC {M:Nat->Prop} {w:World} {C:D->Prop} (a:uP M w C):Value:=a.1.1
def uP.br {M:Nat->Prop} {w:World} {C:D->Prop} (a:uP M w C):D:=a.1.2
def uP.cf {M:Nat->Prop} {w:World} {C:D->Prop} (cf:D->D->Int) (a b:uP M w C):Int:=cf a.br b.br
theorem WB {α:Type} [Inhabited α] {n:Nat} {p:Nat->α->Prop} (h:∀ i,i<n->∃ a,p i a):∃ d:Array α,d.size=n/\∀ i,i<n->p i d[i]!:=by obtain⟨f,hf⟩:=Deep.choose_lt h;refine⟨((List.range n).map f).toArray,by simp,λi hi=>?_⟩;rw [getElem!_pos _ i (by simpa using hi)];simpa using hf i hi
theorem uk {α:Type} (a:Array α):a.extract 0 a.size=a:=by simp
theorem Ug {P:Program} {g:FuncId} {C:D->Prop} {cf:D->D->Int} (hcmp:∀ x y,C x->C y->xA P g [x,y] (.int .i64 (cf x y))) {M0:Nat->Prop} {w:World} {σ:St} {ι:Nat->Nat} (hS:wI M0 w σ ι) {key:Nat} {ob:Ob} (hget:σ.get key=some ob) (size:Nat) [Inhabited (uP (zY M0 ι σ) w C)] :
  CmpLays1 P g #[] (uP.nC (M:=zY M0 ι σ) (w:=w) (C:=C)) (uP.cf cf) (ι key) 0 size w:=by
 intro m os dk hdk x y;have hne:∀ b,¬ zY M0 ι σ b->b≠ι key:=λb hb e=>hb (.inr ⟨key,ob,hget,e.symm⟩)
 have hM:∀ b,zY (zY M0 ι σ) ι jR b->zY M0 ι σ b:=by
  rintro b (h | ⟨k,o,hk,_⟩)
  ·exact h
  ·cases hk
 have hsz:=lj uP.nC w (ι key) 0 m dk os;have hblock:∀ b,b<w.heap.size->¬ zY M0 ι σ b->(sortWorld uP.nC w (ι key) 0 m dk os).heap[b]?=w.heap[b]?:=λb hb hn=>tt uP.nC w (ι key) 0 m dk os hb (hne b hn)
 have S1:wI (zY M0 ι σ) (sortWorld uP.nC w (ι key) 0 m dk os) jR ι:=⟨λb hb=>Ac (zY.lt hS hb) hsz,(λk o hk=>by cases hk),(λk k' o o' hk=>by cases hk),(λk o hk=>by cases hk),hS.nR.zN hsz hblock λb _ hb=>hM b hb⟩
 have zN:∀ z:uP (zY M0 ι σ) w C,RP (zY (zY M0 ι σ) ι jR) (sortWorld uP.nC w (ι key) 0 m dk os) z.nC z.br:=λz=>z.2.1.zN hblock λb _ hb=>hM b hb
 refine((hcmp x.br y.br x.2.2.2 y.2.2.2).run _ _ ι (#[x.nC,y.nC] ++ #[]) S1 rfl λj hj=>?_).mono λe w' hh=>?_
 ·match j,hj with
  | 0,_=>exact .pure (zN x)
  | 1,_=>exact .pure (zN y)
 ·obtain⟨v,ι',rfl,k1,k2,k3,k4,k5,k6⟩:=hh;have K0:Kept (sortWorld uP.nC w (ι key) 0 m dk os) w' λ_=>False:=k1.mono λb _ ⟨k,o,hk,_⟩=>by cases hk
  refine⟨?_,Wg K0⟩;rw [k6.zB.1];rfl
set_option maxHeartbeats 1000000 in
theorem Rf {P:Program} {ρ:Ren} (L:SlLaysF.n6 P ρ) (hord:oR P (ρ.f 6)) {g:FuncId} {C:D->Prop} {cf:D->D->Int}
  (hg:oR P g) (hcmp:∀ x y,C x->C y->xA P g [x,y] (.int .i64 (cf x y)))
  (hirr:∀ x,C x->¬ cf x x<0) (htr:∀ x y z,C x->C y->C z->cf x y<0->cf y z<0->cf x z<0) (hntr:∀ x y z,C x->C y->C z->¬ cf x y<0->¬ cf y z<0->¬ cf x z<0)
  {σ:St} {key:Nat} {xW target:List (List D)} (hget:σ.get key=some ⟨1,xW⟩) (hels:∀ e ∈ xW,∃ d:D,e = [d]/\d.xF=true/\C d) (hlen:xW.length<4611686018427387904) (hne:xW ≠ [])
  (hT:∀ els',els'.Perm xW->VI cf els'->els'=target) :
  xQ P (ρ.f 6) [.yD key 1 xW.length,.fn g []] σ (.wF []) (σ.set key ⟨1,target⟩):=by
 refine⟨hord,λM0 w ι vals hS hl hv=>?_⟩;have h0:=hv 0 (by simp);have h1:=hv 1 (by simp);simp only [List.getD_cons_zero,List.getD_cons_succ] at h0 h1;obtain⟨cap,cur0,e0,e1,kk,a1,a2,a3,a4⟩:=h0.rL;obtain⟨cb,f1,f2,f3⟩:=h1.bB;have hcb:cb = #[]:=Array.eq_empty_of_size_eq_zero (by simpa using f2);subst hcb
 have hvals:vals = #[.slice (some ⟨ι key,0,none⟩) xW.length cap,.func (.func g) #[] #[]]:=by
  obtain⟨l⟩:=vals
  match l,hl with
  | [x,y],_=> simp at e1 f1;rw [e1,f1]
 subst hvals;clear h0 h1 hv e1 f1 f2 f3 hl;have hk:=(hS.holds key _ hget).1;obtain⟨cur,e,c1,c2,c3,c4⟩:=yG.cells (hS.holds key _ hget).2 (Aa 0);simp only [Ab] at c3
 have cell:∀ i,i<xW.length->∃ a:uP (zY M0 ι σ) w C,a.nC=cur.getD i undef/\xW.getD i [] = [a.br]:=by
  intro i hi;have hm:xW.getD i [] ∈ xW:=by simp [List.getD,hi]
  obtain⟨d,hd,hp,hc⟩:=hels _ hm;have h:=c4 i hi 0 (Aa 0);simp only [Ab,Nat.add_zero] at h;rw [hd] at h;exact⟨⟨(cur.getD i undef,d),h.2.rv hp,h.1,hc⟩,rfl,hd⟩
 have hpos:0<xW.length:=π.2 hne;obtain⟨a0,_⟩:=cell 0 hpos
 haveI:Inhabited (uP (zY M0 ι σ) w C):=⟨a0⟩
 obtain⟨d,hds,hdi⟩:=WB cell
 have hO:SWO (ltOf (uP.cf (M:=zY M0 ι σ) (w:=w) (C:=C) cf)):=by
  exact⟨λx=>decide_eq_false (hirr x.br x.2.2.2),λx y z h1 h2=>decide_eq_true (htr x.br y.br z.br x.2.2.2 y.2.2.2 z.2.2.2 (of_decide_eq_true h1) (of_decide_eq_true h2)),
   λx y z h1 h2=>decide_eq_false (hntr x.br y.br z.br x.2.2.2 y.2.2.2 z.2.2.2 (of_decide_eq_false h1) (of_decide_eq_false h2))⟩
 have hH:Holds uP.nC w (ι key) 0 d:=by
  intro j hj;have hj':j<xW.length:=by omega
  have hjc:j<cur.size:=by omega
  refine⟨?_,?_⟩
  ·rw [(hdi j hj').1];simp [World.cell?,c1,Array.getD,hjc]
  ·simp [World.frozen?,c1]
 have hcall:=Any.slices_SortFunc L (uP.nC (M:=zY M0 ι σ) (w:=w) (C:=C)) (λx=>x.2.2.1) (uP.cf cf) hO g #[] (ι key) 0 cap d w (λargs w=>mN hg args w) (Ug hcmp hS hget d.size) hH (Ae.1 c1).1 (by omega);rw [hds] at hcall;refine hcall.mono λe' w' hh=>?_;obtain⟨rfl,d',n,os,hp,hs,rfl⟩:=hh;rw [<- hds] at hp hs;have hsz:d'.size=d.size:=hp.1
 have e1:d.toList.map (λa=>[a.br])= xW:=by refine ζ (by simpa using hds) λi h1 h2=>?_;have:=(hdi i h2).2;rw [getElem!_pos d i (by omega)] at this;simp only [υ,Array.getElem_toList];simp only [List.getD,List.getElem?_eq_getElem h2,Option.getD_some] at this;exact this.symm
 have hperm:(d'.toList.map λa=>[a.br]).Perm xW:=by
  rw [<- e1];have:=hp.2.2;rw [<- hsz] at this;conv at this=>lhs; rw [uk d']
  rw [hsz,uk d] at this;exact this.map _
 have hgd:∀ i,i<d'.size->hd ((d'.toList.map λa=>[a.br]).getD i [])= (d'[i]!).br:=by intro i hi;rw [getElem!_pos d' i hi];simp [hd,List.getD,hi]
 have hsort:VI cf (d'.toList.map λa=>[a.br]):=by
  intro i j hij hj;have hj':j<d'.size:=by simpa using hj
  rw [hgd j hj',hgd i (by omega)];have:=hs i j (ψ _) hij (by omega);exact of_decide_eq_false this
 have htarget:=hT _ hperm hsort;have htl:target.length=xW.length:=by rw [<- htarget]; exact hperm.length_eq
 rw [p8 _ _ _ _ _ _ _ c1];have hcs:(putCells uP.nC 0 d' cur).size=cur.size:=by simp [putCells]
 obtain⟨S2,K2⟩:=hS.set (ob':=⟨1,target⟩) hget c1 hcs (Aa 0) (by simp only [Ab]; omega) ⟨λel he=>by
   rw [<- htarget] at he;simp only [η] at he;obtain⟨a,_,rfl⟩:=he;rfl,λi hi j hj=>by
   have hj0:j=0:=by simp only at hj; omega
   subst hj0;simp only [Ab,Nat.add_zero];have hi':i<d'.size:=by simp only at hi; omega
   have hic:i<cur.size:=by omega
   have ev:(putCells uP.nC 0 d' cur).getD i undef=(d'[i]!).nC:=by simp [putCells,Array.getD,hic,hi']
   have ed:(target.getD i []).getD 0 .top=(d'[i]!).br:=by rw [<- htarget]; exact hgd i hi'
   rw [ev,ed];exact⟨(d'[i]!).2.2.1,.pure (d'[i]!).2.1⟩⟩
 have K3:=Tz (w:=w.setRow (ι key) (putCells uP.nC 0 d' cur)) n os;refine⟨.tuple #[],ι,rfl,K2.trans K3 (λ_ _ h=>h) (λ_ _ h=>h.elim),S2.ext K3,ω _,λ_ _=>rfl,λk o hk=>?_,.wF rfl (λj hj=>by simp at hj)⟩
 by_cases ek:k=key
 ·subst ek; exact .inr ⟨k,_,hget,rfl⟩
 ·refine .inr ⟨k,o,?_,rfl⟩;rw [tU,if_neg (λe=>ek e.symm)] at hk;exact hk
end Go.Pd

/- Part SD. -/
set_option maxRecDepth 100000
namespace Go.Pd
open Go Go.Proofs Go.Shelf Go.Sort
open Ru
def L1 : D->Int
 | .int _ n=>n
 | _=>0
theorem zd {k:Nat} {o:Ob}:∀ {r:List (Nat × Ob)},St.look r k=some o->zC r k o=r
 | [],h=>by cases h
 | (j,o') :: r,h=>by
  rw [xX] at h;rw [oF]
  by_cases e:j=k
  ·rw [if_pos e] at h ⊢;injection h with h; rw [h]
  ·rw [if_neg e] at h ⊢;rw [zd h]
def bq (l:List (List Int)):Prop:=l.Pairwise λa b=>¬ kc b a<0
def fH (l:List (List Int)):List (List Int):=l.mergeSort λa b=>decide (¬ kc b a<0)
theorem mF (l:List (List Int)):(fH l).Perm l:=List.mergeSort_perm l _
theorem Y6 (a b:List Int):¬ kc b a<0\/¬ kc a b<0:=by have:=mQ a b; omega
theorem ot (l:List (List Int)):bq (fH l):=by have:=List.pairwise_mergeSort (le:=λa b:List Int=>decide (¬ kc b a<0)) (λa b c h1 h2=>by simp only [decide_eq_true_eq] at h1 h2 ⊢; exact cN h2 h1) (λa b=>by simp only [Bool.or_eq_true,decide_eq_true_eq]; exact Y6 a b) l;unfold bq fH;exact this.imp λh=>by simpa using h
theorem u9 {a b:List Int} (h1:¬ kc b a<0) (h2:¬ kc a b<0):a=b:=iC (by have:=mQ a b; omega)
theorem sf {l m:List (List Int)} (hp:m.Perm l) (hm:bq m):m=fH l:= List.Perm.eq_of_pairwise (le:=λa b=>¬ kc b a<0) (λx y _ _ h1 h2=>u9 h1 h2) hm (ot l) (hp.trans (mF l).symm)
theorem Ls {o:List (List Int)} (h:∀ a b,a<b->b<o.length->¬ kc (o.getD b []) (o.getD a [])<0):bq o:=by unfold bq;rw [ν];intro i j hi hj hij;have:=h i j hij hj;simpa [List.getD,hi,hj] using this
end Go.Pd

/- Part SE. -/
namespace Go.Pd
open Go Go.Proofs
open Ru
def below (m:List (List Int)) (x:List Int):Nat:=(m.filter λy=>decide (kc y x<0)).length
theorem ov {x:List Int}:∀ {m:List (List Int)} {i:Nat},i<=m.length->(∀ a,a<i->kc (m.getD a []) x<0)->(∀ a,i<=a->a<m.length->¬ kc (m.getD a []) x<0)->below m x=i
 | [],i,h,_,_=>by simp at h; simp [below,h]
 | y :: m,0,_,_,h2=>by have h0:=h2 0 (ω _) (by simp);have ih:=ov (x:=x) (m:=m) (i:=0) (ψ _) (λa ha=>by omega) (λa _ ha=>by simpa using h2 (a+1) (by omega) (by simp; omega));unfold below at ih ⊢;rw [χ,if_neg (by simpa using h0),ih]
 | y :: m,i+1,hi,h1,h2=>by have h0:=h1 0 (by omega);have ih:=ov (x:=x) (m:=m) (i:=i) (by simpa using hi) (λa ha=>by simpa using h1 (a+1) (by omega)) (λa ha hb=>by simpa using h2 (a+1) (by omega) (by simp; omega));unfold below at ih ⊢;rw [χ,if_pos (by simpa using h0),μ,ih]
theorem Rb {n:Nat} (h:n<=1000000):bl .u64 (n:Int) (ui 1#64)= ((n / 2:Nat):Int):=by unfold bl;have e:min (ui 1#64).toNat IntKind.u64.bits=1:=rfl;rw [e];show ((n:Int)).fdiv 2=_;rw [Int.fdiv_eq_ediv_of_nonneg _ (by decide)];omega
theorem SI {m:List (List Int)} {x:List Int} (hm:bq m) {a b:Nat} (hab:a<=b) (hb:b<m.length) (h:kc (m.getD b []) x<0):kc (m.getD a []) x<0:=by
 by_cases e:a=b
 ·rw [e]; exact h
 ·have hp:=ν.1 hm a b (by omega) hb (by omega);have e1:m.getD a []=m[a]'(by omega):=by simp [List.getD,show a<m.length by omega]
  have e2:m.getD b []=m[b]:=by simp [List.getD,hb]
  rw [e1]; rw [e2] at h
  by_cases c:kc (m[a]'(by omega)) x<0
  ·exact c
  ·exact absurd h (cN hp c)
def uB (l:List (List Int)):Nat->List (List Int)
 | 0=>[]
 | k+1=>if 0<k/\l.getD k []=l.getD (k-1) [] then uB l k else uB l k ++ [l.getD k []]
def dedup (l:List (List Int)):List (List Int):=uB l l.length
theorem cI {l:List (List Int)}:∀ {k:Nat},k<=l.length->(∀ i,0<i->i<k->l.getD i []≠l.getD (i-1) [])->uB l k=l.take k
 | 0,_,_=>by simp [uB]
 | k+1,h,hn=>by rw [uB,if_neg (λc=>hn k c.1 (by omega) c.2),cI (by omega) (λi h1 h2=>hn i h1 (by omega)),<- yE (by omega)]
theorem s9 (l:List (List Int)):∀ k,(uB l k).length<=k
 | 0=>ω _
 | k+1=>by
  have:=s9 l k;rw [uB]
  split
  ·omega
  ·rw [ε]; simp; omega
theorem Tg (l:List (List Int)) (k:Nat):(uB l k).length<=(uB l (k+1)).length:=by
 rw [uB]; split
 ·exact ω _
 ·rw [ε]; omega
theorem ff (o:List (List Int)) (i j:Nat) (x:List Int):(o.set i x).getD j []=if i=j/\j<o.length then x else o.getD j []:=by
 simp only [List.getD,List.getElem?_set]
 split
 ·rename_i h; subst h; by_cases hj:i<o.length
  ·simp [hj]
  ·simp [hj]
 ·rename_i h; simp [h]
theorem Ye (l:List (List Int)):∀ k,0<(uB l (k+1)).length
 | 0=>by rw [uB,if_neg (by omega),ε]; simp
 | k+1=>Ac (Ye l k) (Tg l (k+1))
theorem fw {k:Nat} {o o':Ob}:∀ {r:List (Nat × Ob)},St.look r k=some o->St.look (zC r k o') k=some o'
 | [],h=>by cases h
 | (j,ob) :: r,h=>by
  rw [xX] at h;rw [oF]
  by_cases e:j=k
  ·rw [if_pos e,xX,if_pos e]
  ·rw [if_neg e] at h;rw [if_neg e,xX,if_neg e,fw h]
theorem ze (k:Nat) (a b:Ob):∀ r:List (Nat × Ob),zC (zC r k a) k b=zC r k b
 | []=>rfl
 | (j,ob) :: r=>by
  rw [oF,oF]
  by_cases e:j=k
  ·rw [if_pos e,if_pos e,oF,if_pos e]
  ·rw [if_neg e,if_neg e,oF,if_neg e,ze k a b r]
end Go.Pd

/- Part KF. -/
set_option maxRecDepth 100000
namespace Go.Pd
open Go Go.Proofs Go.Shelf Go.Sort
open BitVec renaming isValue -> ZA
open Ru
def rX (ll:List (List Int)):List (List D):=ll.map λl=>[.sl 1 (rows .u64 l)]
theorem wD (l:List (List Int)):(rX l).length=l.length:=by simp [rX]
theorem qT (l:List (List Int)) {i:Nat} (h:i<l.length):(rX l).getD i [] = [.sl 1 (rows .u64 (l.getD i []))]:=by simp [rX,List.getD,h]
theorem RT (l:List (List Int)) (n:Nat):(rX l).take n=rX (l.take n):=by simp [rX,List.map_take]
theorem eW (l:List (List Int)) (r:List Int):rX l ++ [[.sl 1 (rows .u64 r)]]=rX (l ++ [r]):=by simp [rX]
theorem ti : rX [] = []:=rfl
theorem pz (l:List (List Int)):∀ e ∈ rX l,D.xR e=true:=by intro e he;simp only [rX,η] at he;obtain⟨r,_,rfl⟩:=he;have h:∀ e ∈ rows .u64 r,D.xR e=true:=qS _ r;have:(rows .u64 r).all D.xR=true:=List.all_eq_true.2 h;simp [D.xR,D.xF,this]
theorem sO (l:List (List Int)):rP (rX l):=pz l
theorem Sc (a:Int):xA prog 256 [.int .u64 a] (.bool false):=by refine xI func256 Jb λhf=>?_;refine xJ ?_;exact .same
theorem Lv (a b:Int):xA prog 226 [.int .u64 a,.int .u64 b] (.int .i64 (if a<b then -1 else if b<a then 1 else 0)):=by
 refine xI func226 JR λhf=>?_;refine xJ ?_;refine .go (cq (Sc a)) ?_;refine xJ ?_;refine .go (cq (Sc b)) ?_
 by_cases h1:a<b
 ·refine xH h1 ?_;exact .same
 ·by_cases h2:b<a
  ·refine yO h1 h2 ?_;exact .same
  ·refine yO h1 h2 ?_;exact .same
theorem MG (a b:List Int):xA prog 186 [.sl 1 (rows .u64 a),.sl 1 (rows .u64 b)] (.int .i64 (rG a b)):=by
 refine xI func186 J0 λhf=>?_;simp only [D.sR,D.fact,yU] at hf;have hlen:=hf.1.1;refine xJ ?_
 refine xU (λk:Nat=>[(11,.int .i64 k),(10,.int .i64 a.length),(9,.sl 1 (rows .u64 a)),(1,.sl 1 (rows .u64 b)),(0,.sl 1 (rows .u64 a))]) (λ_=>⟨0,[]⟩) (λk=>k<=a.length/\k<=b.length/\rG a b=rG (a.drop k) (b.drop k)) (λk=>a.length-k) 0 ⟨ψ _,ψ _,rfl⟩ ?_ ?_
 ·exact wO
 intro k ⟨hk,hk2,hi⟩;refine xN mixed ?_
 by_cases h:k<a.length
 ·have hd:((k:Int)<(a.length:Int)):=by omega
  have e1:a.drop k=a.getD k 0 :: a.drop (k+1):=by simp [List.getD,h]
  rw [e1] at hi
  by_cases h2:k<b.length
  ·have hd2:¬ ((b.length:Int)<=(k:Int)):=by omega
   have hd3:((k:Int)<(b.length:Int)):=by omega
   have e2:b.drop k=b.getD k 0 :: b.drop (k+1):=by simp [List.getD,h2]
   rw [e2,fk] at hi;simp only [simprocAttr,-ZA,↓zU,↓zD,zV,zT,zW,hd,wU .u64 a h,hd2,hd3,wU .u64 b h2]
   (repeat refine sd ?_)
   refine .go (xQ.yP (Lv (a.getD k 0) (b.getD k 0)) rfl) ?_
   by_cases c1:a.getD k 0<b.getD k 0
   ·rw [if_pos c1] at hi ⊢;refine xJ ?_;rw [hi];exact .same
   ·by_cases c2:b.getD k 0<a.getD k 0
    ·rw [if_neg c1,if_pos c2] at hi ⊢;refine xJ ?_;rw [hi];exact .same
    ·rw [if_neg c1,if_neg c2] at hi ⊢;refine xJ ?_;refine⟨k+1,⟨by omega,by omega,hi⟩,?_,by omega⟩;exact yL
  ·have hd2:((b.length:Int)<=(k:Int)):=by omega
   rw [γ (show b.length<=k by omega),Wh] at hi;simp only [simprocAttr,-ZA,↓zU,↓zD,zV,zT,zW,hd,wU .u64 a h,hd2]
   (repeat refine sd ?_)
   rw [hi];exact .same
 ·have hd:¬ ((k:Int)<(a.length:Int)):=by omega
  rw [γ (show a.length<=k by omega),Qa,List.length_drop] at hi
  by_cases c:a.length<b.length
  ·have c':(a.length:Int)<(b.length:Int):=by omega
   rw [if_neg (by omega)] at hi;refine yO hd c' ?_;rw [hi];exact .same
  ·have c':¬ (a.length:Int)<(b.length:Int):=by omega
   rw [if_pos (by omega)] at hi;refine yO hd c' ?_;rw [hi];exact .same
theorem pa (a b:List Int):xA prog 74 [.sl 1 (rows .u64 a),.sl 1 (rows .u64 b)] (.bool (decide (a=b))):=by
 refine xI func74 Fa λhf=>?_;simp only [D.sR,D.fact,yU] at hf;have hlen:=hf.1.1;by_cases h1:a.length=b.length
 case neg=>
  have h1':((a.length:Int) != (b.length:Int))= true:=by simp; omega
  refine xH h1' ?_;exact .drop (by simp) (by simp only [vw,D.bool.injEq]; symm; apply decide_eq_false; rintro rfl; exact h1 rfl)
 have h1':((a.length:Int) != (b.length:Int))= false:=by simp; omega
 refine xH h1' ?_
 refine xU (λk:Nat=>[(13,.int .i64 k),(12,.int .i64 a.length),(1,.sl 1 (rows .u64 b)),(0,.sl 1 (rows .u64 a))]) (λ_=>⟨0,[]⟩) (λk=>k<=a.length/\∀ i,i<k->a.getD i 0=b.getD i 0) (λk=>a.length-k) 0 ⟨ψ _,λi hi=>by omega⟩ ?_ ?_
 ·exact wO
 intro k ⟨hk,hi⟩;refine xN mixed ?_
 by_cases h:k<a.length
 ·have hd:((k:Int)<(a.length:Int)):=by omega
  by_cases hb:a.getD k 0=b.getD k 0
  ·have hb1:(a.getD k 0 != b.getD k 0)= false:=by simp only [hb,bne_self_eq_false]
   simp only [simprocAttr,-ZA,↓zU,↓zD,zV,zT,zW,hd,wU _ _ h,wU .u64 b (show k<b.length by omega),hb1]
   (repeat refine sd ?_)
   refine⟨k+1,⟨by omega,λi hi2=>?_⟩,?_,by omega⟩
   ·by_cases ei:i=k
    ·rw [ei,hb]
    ·exact hi i (by omega)
   exact yL
  ·have hb1:(a.getD k 0 != b.getD k 0)= true:=bne_iff_ne.2 hb;simp only [simprocAttr,-ZA,↓zU,↓zD,zV,zT,zW,hd,wU _ _ h,wU .u64 b (show k<b.length by omega),hb1]
   (repeat refine sd ?_)
   exact .drop (by simp) (by simp only [vw,D.bool.injEq]; symm; apply decide_eq_false; rintro rfl; exact hb rfl)
 ·have hd:¬ ((k:Int)<(a.length:Int)):=by omega
  have hk':k=a.length:=by omega
  subst hk';refine xH hd ?_;refine .drop (by simp) ?_;simp only [vw,D.bool.injEq]; symm; apply decide_eq_true;refine ζ h1 λi h2 h3=>?_;have:=hi i h2;simpa [List.getD,h2,h3] using this
theorem aO (a b:List Int):xA prog 124 [.sl 1 (rows .u64 a),.sl 1 (rows .u64 b)] (.int .i64 (kc a b)):=by
 have h1:=KJ (a.length:Int) (b.length:Int);have h2:=MG a b;have h3:=Jq (if (a.length:Int)<(b.length:Int) then -1 else if (b.length:Int)<(a.length:Int) then 1 else 0) (rG a b)
 have e:(if (if (a.length:Int)<(b.length:Int) then(-1:Int) else if (b.length:Int)<(a.length:Int) then 1 else 0)≠ 0 then(if (a.length:Int)<(b.length:Int) then(-1:Int) else if (b.length:Int)<(a.length:Int) then 1 else 0) else rG a b)= kc a b:=by
  unfold kc
  by_cases c1:a.length<b.length
  ·rw [if_pos (show (a.length:Int)<b.length by omega),if_pos c1]; rfl
  ·rw [if_neg (show ¬ (a.length:Int)<b.length by omega),if_neg c1]
   by_cases c2:b.length<a.length
   ·rw [if_pos (show (b.length:Int)<a.length by omega),if_pos c2]; rfl
   ·rw [if_neg (show ¬ (b.length:Int)<a.length by omega),if_neg c2]; rfl
 rw [e] at h3;simp only [za,lQ] at h3;generalize (if (a.length:Int)<(b.length:Int) then(-1:Int) else if (b.length:Int)<(a.length:Int) then 1 else 0)= z at h1 h3;refine xI func124 IT λhf=>?_;refine xJ ?_;refine .go (cq h1) ?_;refine xJ ?_;refine .go (cr h2) ?_;refine xJ ?_;refine⟨by simp [D.xR,D.xF],?_⟩;refine .go (cr h3) ?_;refine xJ ?_;exact .same
theorem Sa (a b:List Int):xA prog 129 [.sl 1 (rows .u64 a),.sl 1 (rows .u64 b)] (.bool (decide (a=b))):=by refine xI func129 IY λhf=>?_;refine xJ ?_;refine .go (cr (pa a b)) ?_;refine xJ ?_;exact .same
theorem UW (l:List Int):(rows .u64 l).map (λe=>L1 (hd e))= l:=by
 unfold rows;rw [ξ];conv=>rhs; rw [<- ο l]
 exact δ λx _=>rfl
def Xb : Go.Shelf.Ren where
 f:=λx=>match x with | 6=>127 | 15=>189 | 14=>188 | 28=>235 | 29=>236 | 20=>227 | 21=>228 | 22=>229 | 23=>230 | 24=>231 | 25=>232 | 26=>233 | 27=>234 | 46=>257 | 47=>258 | 48=>259 | 49=>260 | 50=>261 | 57=>273 | n=>n
 t:=λx=>match x with | 22=>51 | 24=>22 | 25=>49 | 39=>88 | 53=>248 | 55=>56 | 46=>242 | 45=>241 | 50=>129 | 66=>268 | 70=>272 | 76=>280 | 77=>281 | n=>n
 g:=λx=>x
theorem Ty : SlLaysF.n6 prog Xb where
 mixed:=by kernel_rfl
 f6:=⟨ "slices.SortFunc[[][]uint64,[]uint64]",by decide,func127.trans (congrArg some (by kernel_rfl))⟩
 f14:=⟨ "slices.pdqsortCmpFunc[[]uint64]",by decide,func188.trans (congrArg some (by kernel_rfl))⟩
 f15:=func189.trans (congrArg some (by kernel_rfl))
 f20:=⟨ "slices.insertionSortCmpFunc[[]uint64]",by decide,func227.trans (congrArg some (by kernel_rfl))⟩
 f21:=⟨ "slices.heapSortCmpFunc[[]uint64]",by decide,func228.trans (congrArg some (by kernel_rfl))⟩
 f22:=⟨ "slices.breakPatternsCmpFunc[[]uint64]",by decide,func229.trans (congrArg some (by kernel_rfl))⟩
 f23:=⟨ "slices.choosePivotCmpFunc[[]uint64]",by decide,func230.trans (congrArg some (by kernel_rfl))⟩
 f24:=⟨ "slices.reverseRangeCmpFunc[[]uint64]",by decide,func231.trans (congrArg some (by kernel_rfl))⟩
 f25:=⟨ "slices.partialInsertionSortCmpFunc[[]uint64]",by decide,func232.trans (congrArg some (by kernel_rfl))⟩
 f26:=⟨ "slices.partitionEqualCmpFunc[[]uint64]",by decide,func233.trans (congrArg some (by kernel_rfl))⟩
 f27:=⟨ "slices.partitionCmpFunc[[]uint64]",by decide,func234.trans (congrArg some (by kernel_rfl))⟩
 f28:=func235.trans (congrArg some (by kernel_rfl))
 f29:=func236.trans (congrArg some (by kernel_rfl))
 f46:=⟨ "slices.siftDownCmpFunc[[]uint64]",by decide,func257.trans (congrArg some (by kernel_rfl))⟩
 f47:=func258.trans (congrArg some (by kernel_rfl))
 f48:=func259.trans (congrArg some (by kernel_rfl))
 f49:=⟨ "slices.medianAdjacentCmpFunc[[]uint64]",by decide,func260.trans (congrArg some (by kernel_rfl))⟩
 f50:=⟨ "slices.medianCmpFunc[[]uint64]",by decide,func261.trans (congrArg some (by kernel_rfl))⟩
 f57:=⟨ "slices.order2CmpFunc[[]uint64]",by decide,func273.trans (congrArg some (by kernel_rfl))⟩
 t0:=Tryz.underlying0
 a0:=Tryz.isAgg0
 z0:=Tryz.sizeOf0
 v0:=Tryz.zeroValue0
 t3:=Tryz.underlying3
 a3:=Tryz.isAgg3
 z3:=Tryz.sizeOf3
 v3:=Tryz.zeroValue3
 t4:=Tryz.underlying4
 a4:=Tryz.isAgg4
 z4:=Tryz.sizeOf4
 v4:=Tryz.zeroValue4
 t5:=Tryz.underlying5
 a5:=Tryz.isAgg5
 z5:=Tryz.sizeOf5
 v5:=Tryz.zeroValue5
 t9:=Tryz.underlying9
 a9:=Tryz.isAgg9
 z9:=Tryz.sizeOf9
 v9:=Tryz.zeroValue9
 t22:=Tryz.underlying51
 a22:=Tryz.isAgg51
 z22:=Tryz.sizeOf51
 v22:=Tryz.zeroValue51
 a24:=Tryz.isAgg22
 z24:=Tryz.sizeOf22
 t25:=Tryz.underlying49
 a25:=Tryz.isAgg49
 z25:=Tryz.sizeOf49
 v25:=Tryz.zeroValue49
 t39:=Tryz.underlying88
 a39:=Tryz.isAgg88
 z39:=Tryz.sizeOf88
 v39:=Tryz.zeroValue88
 t45:=Tryz.underlying241
 a45:=Tryz.isAgg241
 z45:=Tryz.sizeOf241
 v45:=Tryz.zeroValue241
 t46:=Tryz.underlying242
 a46:=Tryz.isAgg242
 z46:=Tryz.sizeOf242
 v46:=Tryz.zeroValue242
 t50:=Tryz.underlying129
 a50:=Tryz.isAgg129
 z50:=Tryz.sizeOf129
 v50:=Tryz.zeroValue129
 t53:=Tryz.underlying248
 a53:=Tryz.isAgg248
 z53:=Tryz.sizeOf248
 v53:=Tryz.zeroValue248
 t55:=Tryz.underlying56
 a55:=Tryz.isAgg56
 z55:=Tryz.sizeOf56
 v55:=Tryz.zeroValue56
 t66:=Tryz.underlying268
 a66:=Tryz.isAgg268
 z66:=Tryz.sizeOf268
 v66:=Tryz.zeroValue268
 t70:=Tryz.underlying272
 a70:=Tryz.isAgg272
 z70:=Tryz.sizeOf272
 v70:=Tryz.zeroValue272
 t76:=Tryz.underlying280
 a76:=Tryz.isAgg280
 z76:=Tryz.sizeOf280
 v76:=Tryz.zeroValue280
 t77:=Tryz.underlying281
 a77:=Tryz.isAgg281
 z77:=Tryz.sizeOf281
 v77:=Tryz.zeroValue281
def jY : D->List Int
 | .sl _ xW=>xW.map λe=>L1 (hd e)
 | _=>[]
theorem iV (l:List Int):jY (.sl 1 (rows .u64 l))= l:=UW l
theorem RS {l:List (List Int)} {xW:List (List D)} (h:xW.Perm (rX l)):∃ m:List (List Int),xW=rX m/\m.Perm l:=by
 refine⟨xW.map λe=>jY (hd e),?_,?_⟩
 ·unfold rX;rw [ξ];conv=>lhs; rw [<- ο xW]
  refine δ λe he=>?_;have:=h.mem_iff.1 he;simp only [rX,η] at this;obtain⟨n,_,rfl⟩:=this;show [D.sl 1 (rows .u64 n)] = [D.sl 1 (rows .u64 (jY (.sl 1 (rows .u64 n))))];rw [iV]
 ·have:=h.map λe=>jY (hd e)
  have e:(rX l).map (λe=>jY (hd e))= l:=by
   unfold rX;rw [ξ];conv=>rhs; rw [<- ο l]
   exact δ λx _=>iV x
  rw [e] at this;exact this
theorem SY {l:List (List Int)} {i:Nat} (h:i<l.length):jY (hd ((rX l).getD i []))= l.getD i []:=by rw [qT _ h]; exact iV _
theorem YK {σ:St} {key:Nat} {l:List (List Int)} (hget:σ.get key=some ⟨1,rX l⟩) (hne:l ≠ []) (hlen:l.length<=1000) :
  xQ prog 127 [.yD key 1 l.length,.fn 124 []] σ (.wF []) (σ.set key ⟨1,rX (fH l)⟩):=by
 have ho:oR prog 127:=⟨_,func127,by kernel_rfl,by kernel_rfl⟩;have ho2:oR prog 124:=⟨_,func124,by kernel_rfl,by kernel_rfl⟩
 have h:=Rf (P:=prog) (ρ:=Xb) Ty ho (g:=124) (C:=λd=>∃ l:List Int,d = .sl 1 (rows .u64 l)) (cf:=λx y=>kc (jY x) (jY y)) ho2
  (by rintro x y ⟨a,rfl⟩ ⟨b,rfl⟩; rw [iV,iV]; exact aO a b) (by intro x _; rw [dS]; omega) (by intro x y z _ _ _ h1 h2; exact pg h1 h2) (by intro x y z _ _ _ h1 h2; exact cN h1 h2)
  hget (target:=rX (fH l)) (by
   intro e he;have hp:=pz l e he;simp only [rX,η] at he;obtain⟨n,hn,rfl⟩:=he;exact⟨_,rfl,by simpa [D.xR] using hp,n,rfl⟩) (by rw [wD]; omega) (by intro c; apply hne; simpa [rX] using c) (by
   intro els' hp hs;obtain⟨m,rfl,hm⟩:=RS hp;rw [sf hm (Ls λa b hab hb=>?_)];have:=hs a b hab (by rw [wD]; exact hb);change ¬ kc (jY _) (jY _)<0 at this;rw [SY hb,SY (show a<m.length by omega)] at this;exact this)
 rw [wD] at h;exact h
theorem Ub {m:List (List Int)} (x:List Int) (hm:bq m) (hl:m.length<=1000):∃ b:Bool,xA prog 123 [.sl 1 (rX m),.sl 1 (rows .u64 x),.fn 124 []] (.wF [.int .i64 (below m x),.bool b]):=by
 refine⟨decide (below m x<m.length)&& decide (kc (m.getD (below m x) []) x=0),?_⟩;refine xI func123 IS λhf=>?_;refine xH wD ?_
 refine xU (λa:Nat × Nat=>[(10,.int .i64 a.2),(9,.int .i64 a.1),(8,.int .i64 m.length),(2,.fn 124 []),(1,.sl 1 (rows .u64 x)),(0,.sl 1 (rX m))]) (λ_=>⟨0,[]⟩) (λa=>a.1<=a.2/\a.2<=m.length/\(∀ i,i<a.1->kc (m.getD i []) x<0)/\ (∀ i,a.2<=i->i<m.length->¬ kc (m.getD i []) x<0)) (λa=>a.2-a.1) (0,m.length) ⟨ψ _,ω _,λi hi=>by omega,λi h1 h2=>by omega⟩ ?_ ?_
 ·exact wO
 intro ⟨lo,hi⟩ ⟨h1,h2,h3,h4⟩;simp only at h1 h2 h3 h4;refine xN mixed ?_
 by_cases h:lo<hi
 ·have hd:((lo:Int)<(hi:Int)):=by omega
  have es:IntKind.i64.wrap ((lo:Int)+ (hi:Int))= ((lo+hi:Nat):Int):=by rw [wrap_i64 (by omega)]; omega
  have ew:IntKind.i64.wrap (((lo+hi)/ 2:Nat):Int)= (((lo+hi)/ 2:Nat):Int):=wrap_i64 (by omega);have hmid:(lo+hi)/ 2<m.length:=by omega
  simp only [simprocAttr,-ZA,↓zU,↓zD,zV,zT,zW,hd,es,Sn (show lo+hi<=1000000 by omega),Rb (show lo+hi<=1000000 by omega),ew,wD,qT m hmid]
  (repeat refine sd ?_)
  refine .go (xQ.yP (aO (m.getD ((lo+hi)/ 2) []) x) (by simp [D.xR,D.xF])) ?_
  by_cases c:kc (m.getD ((lo+hi)/ 2) []) x<0
  ·simp only [simprocAttr,-ZA,↓zU,↓zD,zV,zT,zW,c];refine⟨((lo+hi)/ 2+1,hi),⟨by show (lo+hi)/ 2+1<=hi; omega,h2,λi hi2=>SI hm (show i<=(lo+hi)/ 2 by change i<(lo+hi)/ 2+1 at hi2; omega) hmid c,h4⟩,?_,by show hi-((lo+hi)/ 2+1)<hi-lo; omega⟩;exact yL
  ·simp only [simprocAttr,-ZA,↓zU,↓zD,zV,zT,zW,c];refine⟨(lo,(lo+hi)/ 2),⟨by show lo<=(lo+hi)/ 2; omega,by show (lo+hi)/ 2<=m.length; omega,h3,λi hi2 hi3 hc=>c (SI hm hi2 hi3 hc)⟩,?_,by show (lo+hi)/ 2-lo<hi-lo; omega⟩;exact yL
 ·have hd:¬ ((lo:Int)<(hi:Int)):=by omega
  have e:below m x=lo:=ov (by omega) h3 λa ha hb=>h4 a (by omega) hb;rw [e]
  by_cases hlen:lo<m.length
  ·have hd2:((lo:Int)<(m.length:Int)):=by omega
   simp only [simprocAttr,-ZA,↓zU,↓zD,zV,zT,zW,hd,hd2,wD,qT m hlen]
   (repeat refine sd ?_)
   refine .go (xQ.yP (aO (m.getD lo []) x) (by simp [D.xR,D.xF])) ?_;refine xJ ?_;exact .drop (by simp) (by simp only [vw,vC,and_true,D.bool.injEq,true_and,μ,List.length_nil,decide_eq_true hlen,Bool.true_and]; rfl)
  ·have hd2:¬ ((lo:Int)<(m.length:Int)):=by omega
   refine yO hd hd2 ?_;exact .drop (by simp) (by simp only [vw,vC,and_true,D.bool.injEq,true_and,μ,List.length_nil,decide_eq_false hlen,Bool.false_and])
theorem P3 (l:List (List Int)) (i:Nat) (x:List Int):(rX l).set i [.sl 1 (rows .u64 x)]=rX (l.set i x):=by simp [rX,List.map_set]
def ZV (l:List (List Int)):List (List D):=rX (dedup l)++ List.replicate (l.length-(dedup l).length) [.xL]
theorem WL {σ:St} {key:Nat} {l:List (List Int)} (hget:σ.get key=some ⟨1,rX l⟩) (hlen:l.length<=1000) (hne:l ≠ []) :
  xQ prog 128 [.yD key 1 l.length,.fn 129 []] σ (.yD key 1 (dedup l).length) (σ.set key ⟨1,ZV l⟩):=by
 obtain⟨nx,xZ⟩:=σ;have hpos:0<l.length:=π.2 hne;have hg:St.look xZ key=some ⟨1,rX l⟩:=hget
 have whole:dedup l=l->(.yD key 1 (dedup l).length=D.yD key 1 l.length/\(⟨nx,zC xZ key ⟨1,ZV l⟩⟩:St)= ⟨nx,xZ⟩):=by
  intro e;refine⟨by rw [e],?_⟩;have:ZV l=rX l:=by unfold ZV; rw [e]; simp
  rw [this,zd hg]
 refine xI func128 L3 λhf=>?_
 by_cases h2:l.length<2
 ·have hd:(l.length:Int)<2:=by omega
  refine xH hd ?_
  have e:dedup l=l:=by unfold dedup;rw [cI (ω _) (λi h1 h3=>by omega),τ]
  obtain⟨e1,e2⟩:=whole e;exact .inl ⟨e1,e2⟩
 have hd:¬ (l.length:Int)<2:=by omega
 refine xH hd ?_
 refine xU (λk:Nat=>[(5,.int .i64 k),(1,.fn 129 []),(0,.yD key 1 l.length)]) (λ_=>⟨nx,xZ⟩) (λk=>1<=k/\k<=l.length/\∀ i,0<i->i<k->l.getD i []≠l.getD (i-1) []) (λk=>l.length-k) 1 ⟨ω _,by omega,λi h1 h2=>by omega⟩ ?_ ?_
 ·exact wO
 intro i0 ⟨hi1,hi2,hi3⟩;refine xN mixed ?_;by_cases h:i0<l.length
 case neg=>
  have hd:¬ ((i0:Int)<(l.length:Int)):=by omega
  have e:dedup l=l:=by unfold dedup;rw [cI (ω _) (λi h1 h3=>hi3 i h1 (by omega)),τ]
  obtain⟨e1,e2⟩:=whole e;refine xH hd ?_;exact .inl ⟨e1,e2⟩
 have hd:((i0:Int)<(l.length:Int)):=by omega
 have em:IntKind.i64.wrap ((i0:Int)-1)= ((i0-1:Nat):Int):=by rw [wrap_i64 (by omega)]; omega
 simp only [simprocAttr,-ZA,↓zU,↓zD,zV,zT,zW,hd,hg,qT l h,em,wD,qT l (show i0-1<l.length by omega)]
 (repeat refine sd ?_)
 refine .go (xQ.yP (Sa (l.getD i0 []) (l.getD (i0-1) [])) (by simp [D.xR,D.xF])) ?_;by_cases hq:l.getD i0 []=l.getD (i0-1) []
 case neg=>
  simp only [simprocAttr,-ZA,↓zU,↓zD,zV,zT,zW,decide_eq_false hq]
  refine⟨i0+1,⟨by omega,by omega,λi h1 h3=>?_⟩,?_,by omega⟩
  ·by_cases e:i=i0
   ·rw [e]; exact hq
   ·exact hi3 i h1 (by omega)
  exact yL
 simp only [simprocAttr,-ZA,↓zU,↓zD,zV,zT,zW,decide_eq_true hq];have ei:¬ (i0:Int)= 0:=by omega
 have ei2:¬ (i0:Int)= (l.length:Int):=by omega
 refine⟨i0,l.length,rfl,rfl,by omega,by omega,by omega,?_⟩;simp only [Ah,if_neg ei,if_neg ei2];have d1:uB l (i0+1)= l.take i0:=by rw [uB,if_pos ⟨by omega,hq⟩,cI (by omega) hi3]
 refine xU (λa:Nat × List (List Int)=>[(7,.int .i64 a.1),(6,.sub key 1 i0 (l.length-i0)),(5,.int .i64 (uB l (i0+a.1)).length),(1,.fn 129 []),(0,.yD key 1 l.length)]) (λa=>⟨nx,zC xZ key ⟨1,rX a.2⟩⟩)
  (λa=>1<=a.1/\i0+a.1<=l.length/\a.2.length=l.length/\(uB l (i0+a.1)).length<i0+a.1/\a.2.take (uB l (i0+a.1)).length=uB l (i0+a.1)/\ ∀ j,i0+a.1-1<=j->a.2.getD j []=l.getD j []) (λa=>l.length-a.1) (1,l)
  ⟨ω _,by omega,rfl,by rw [d1,κ]; omega,by rw [d1,κ,Nat.min_eq_left (by omega)],λj _=>rfl⟩ ?_ ?_
 ·rw [zd hg]
  (refine yR.same ?_; simp [yS,Fr.get,d1])
  omega
 intro ⟨q,o⟩ ⟨q1,q2,q3,q4,q5,q6⟩;simp only at q1 q2 q3 q4 q5 q6;have hlk:∀ ob:Ob,St.look (zC xZ key ob) key=some ob:=λob=>fw hg;refine xN mixed ?_
 by_cases hp:i0+q<l.length
 ·have hd3:((q:Int)<((l.length-i0:Nat):Int)):=by omega
  have eq1:IntKind.i64.wrap ((q:Int)-1)= ((q-1:Nat):Int):=by rw [wrap_i64 (by omega)]; omega
  simp only [simprocAttr,-ZA,↓zU,↓zD,zV,zT,zW,hd3,hlk,eq1,wD,qT o (show i0+q<o.length by omega),qT o (show i0+(q-1)<o.length by omega)]
  (repeat refine sd ?_)
  refine .go (xQ.yP (Sa (o.getD (i0+q) []) (o.getD (i0+(q-1)) [])) (by simp [D.xR,D.xF])) ?_;have a1:o.getD (i0+q) []=l.getD (i0+q) []:=q6 _ (by omega);have a2:o.getD (i0+(q-1)) []=l.getD (i0+q-1) []:=by rw [q6 _ (by omega)]; congr 1; omega
  rw [a1,a2]
  by_cases hq2:l.getD (i0+q) []=l.getD (i0+q-1) []
  ·have dd:uB l (i0+(q+1))= uB l (i0+q):=by show uB l ((i0+q)+ 1)= _;rw [uB,if_pos ⟨by omega,hq2⟩]
   simp only [simprocAttr,-ZA,↓zU,↓zD,zV,zT,zW,decide_eq_true hq2];refine⟨(q+1,o),⟨by show 1<=q+1; omega,by show i0+(q+1)<=l.length; omega,q3,by show (uB l (i0+(q+1))).length<i0+(q+1); rw [dd]; omega,by show o.take (uB l (i0+(q+1))).length=uB l (i0+(q+1)); rw [dd,q5],λj hj=>q6 j (by change i0+(q+1)-1<=j at hj; omega)⟩,?_,by show l.length-(q+1)<l.length-q; omega⟩
   (refine yR.same ?_; simp only [yS,Fr.get,simprocAttr,-ZA,zS,dd])
   exact wrap_i64 (by omega)
  ·have dd:uB l (i0+(q+1))= uB l (i0+q)++ [l.getD (i0+q) []]:=by show uB l ((i0+q)+ 1)= _;rw [uB,if_neg (λc=>hq2 c.2)]
   have dl:(uB l (i0+(q+1))).length=(uB l (i0+q)).length+1:=by rw [dd,ε]; rfl
   simp only [simprocAttr,-ZA,↓zU,↓zD,zV,zT,zW,decide_eq_false hq2,hlk,wD,qT o (show i0+q<o.length by omega),a1]
   (repeat refine sd ?_)
   have c1:(uB l (i0+q)).length<o.length:=by omega
   have eset:(rX o).set (uB l (i0+q)).length (((rX o).getD (uB l (i0+q)).length []).set 0 (D.sl 1 (rows .u64 (l.getD (i0+q) []))))= rX (o.set (uB l (i0+q)).length (l.getD (i0+q) [])):=by rw [qT o c1];exact P3 _ _ _
   refine⟨(q+1,o.set (uB l (i0+q)).length (l.getD (i0+q) [])),⟨by show 1<=q+1; omega,by show i0+(q+1)<=l.length; omega,by show (o.set _ _).length=_; rw [List.length_set]; exact q3,by show (uB l (i0+(q+1))).length<i0+(q+1); omega,?_,λj hj=>?_⟩,?_,by show l.length-(q+1)<l.length-q; omega⟩
   ·show (o.set (uB l (i0+q)).length (l.getD (i0+q) [])).take (uB l (i0+(q+1))).length=_;rw [dl,yE (d:=[]) (by rw [List.length_set]; exact c1),ff,if_pos ⟨rfl,c1⟩,dd,List.take_set_of_le (ω _),q5]
   ·change i0+(q+1)-1<=j at hj;show (o.set (uB l (i0+q)).length (l.getD (i0+q) [])).getD j []=_;rw [ff,if_neg (by omega)];exact q6 j (by omega)
   ·simp only [ze,eset]
    (refine yR.same ?_; simp only [yS,Fr.get,simprocAttr,-ZA,zS,dl])
    exact⟨wrap_i64 (by omega),wrap_i64 (by omega)⟩
 ·have hd3:¬ ((q:Int)<((l.length-i0:Nat):Int)):=by omega
  have ed:uB l (i0+q)= dedup l:=by unfold dedup; rw [show i0+q=l.length by omega]
  have c0:0<(dedup l).length:=by have:=Ye l (l.length-1);rw [show l.length-1+1=l.length by omega] at this;exact this
  rw [ed] at q4 q5;refine yO hd3 ed ?_;refine⟨(dedup l).length,l.length,rfl,rfl,by omega,by omega,by omega,?_⟩;rw [if_neg (show ¬ ((dedup l).length:Int)= 0 by omega),if_neg (show ¬ ((dedup l).length:Int)= (l.length:Int) by omega)];simp only [Ah,hlk,wD,true_and];refine⟨by omega,by omega,?_⟩;refine⟨0,(dedup l).length,rfl,rfl,by omega,by omega,by omega,?_⟩;rw [if_pos rfl];refine .inl ⟨by rw [Ah],?_⟩;have e2:(rX o).take (dedup l).length=rX (dedup l):=by rw [RT,q5]
  have e3:(rX o).drop ((dedup l).length+(l.length-(dedup l).length))= []:=γ (by rw [wD]; omega)
  have e4:ZV l=(rX o).take (dedup l).length++(List.replicate (l.length-(dedup l).length) [D.xL]++(rX o).drop ((dedup l).length+(l.length-(dedup l).length))):=by rw [e2,e3,List.append_nil]; rfl
  rw [e4];simp only [ze]
theorem rN (l:List (BitVec 64)):us l=rows .u64 (l.map ui):=by simp [us,rows]
end Go.Pd

/- Part KG. -/
namespace Go.Pd
open Go Go.Proofs
open BitVec renaming isValue -> ZA
open Rs Fm Ru Kb
namespace Kb
def vG (xV st:List (BitVec 64)) (a t:Nat):List (BitVec 64):=(st.take (t+1)).map λs=>s &&& xV.getD a 0
theorem yz {xV st:List (BitVec 64)} {a t:Nat} (h:t<st.length):(vG xV st a t).length=t+1:=by simp [vG]; omega
theorem VY {xV st:List (BitVec 64)} {a t:Nat} (h:t<st.length):vG xV st a t ≠ []:=λc=>by have:=yz (xV:=xV) (a:=a) h;rw [c] at this; cases this
def bu (p:yT) (sts:List (List (BitVec 64))):List D:=[.int .i64 p.F,.sl 1 (us p.init),.sl 1 (us p.xV),.sl 1 (uK p.xO),.sl 1 (uJ p.code),.sl 1 (rr sts)]
def nD (p:yT) (sts:List (List (BitVec 64))):D:=.ptr (bu p sts)
end Kb
theorem rS {g:FuncId} {args:List D} {l:List (BitVec 64)} (h:xQ prog g args jR (.yD 0 1 l.length) ⟨1,[(0,⟨1,us l⟩)]⟩):xA prog g args (.sl 1 (us l)):= xQ.ret h (.drop (ψ _) (XP (by decide) (vT l) (xT l).symm))
theorem iU (p:yT) {sts:List (List (BitVec 64))} {a r t:Nat} (ha:a<p.xV.length) (hr:r<sts.length) (ht:t<(sts.getD r []).length) (hl:t<=1000) :
  xQ prog 75 [nD p sts,.int .i64 a,.int .i64 r,.int .i64 t] jR (.yD 0 1 (vG p.xV (sts.getD r []) a t).length) ⟨1,[(0,⟨1,us (vG p.xV (sts.getD r []) a t)⟩)]⟩:=by
 have hg:=tZ sts hr;have hne:=VY (xV:=p.xV) (a:=a) ht;have hL:=yz (xV:=p.xV) (a:=a) ht;have hga:=yF p.xV ha;have hha:((a:Int)<(p.xV.length:Int)):=by omega
 have hhr:((r:Int)<(sts.length:Int)):=by omega
 unfold vG at hne hL ⊢;generalize sts.getD r []=st at *;generalize p.xV.getD a 0=m at *;have hu:(us st).take (t+1)= us (st.take (t+1)):=Vr _ _;have hw:IntKind.i64.wrap ((t:Int)+ 1)= ((t+1:Nat):Int):=by rw [wrap_i64 (by omega)]; rfl
 have hst:(st.take (t+1)).length=t+1:=by rw [κ]; omega
 unfold nD bu;refine xI func75 Fb λhf=>?_;refine uC yZ hhr hg hw ?_;refine⟨0,((t+1:Nat):Int),rfl,rfl,by omega,by omega,by omega,?_⟩;simp only [Ah,Int.toNat_zero,List.drop_zero,hu];generalize st.take (t+1)= q at *;refine yO xT hst ?_
 refine xU (λk:Nat=>[(23,.int .i64 k),(22,.int .i64 ((t+1:Nat):Int)),(21,.sl 1 (us q)),(9,xB 0 1 (us ((q.take k).map λs=>s &&& m))),(1,.int .i64 a),(0,nD p sts)]) (λk=>⟨1,yX 0 1 (us ((q.take k).map λs=>s &&& m))⟩) (λk=>k<=t+1) (λk=>t+1-k) 0 (ψ _) ?_ ?_
 ·unfold nD bu
  (refine rZ [] [] ?_; simp only [wR,zQ,simprocAttr,-ZA,exists_eq_left',ne_eq,zR,List.take_zero,List.map_nil,iN,zK,zL])
 intro k hk;refine xN mixed ?_;unfold nD bu
 by_cases hh:k<t+1
 ·have hd:((k:Int)<((t+1:Nat):Int)):=by omega
  have hgq:=yF q (show k<q.length by omega);have ht2:(q.take (k+1)).map (λs=>s &&& m)= (q.take k).map (λs=>s &&& m)++ [q.getD k 0 &&& m]:=by rw [yE (d:=0) (by omega)]; simp
  have hkl:((q.take k).map λs=>s &&& m).length=k:=by simp; omega
  generalize (q.take k).map (λs=>s &&& m)= acc at hkl ht2 ⊢;generalize q.getD k 0=x at hgq ht2;refine pH hd xT hst hgq hha hga ?_;refine⟨k+1,by omega,?_,by omega⟩;rw [ht2];exact mD [(0,1)] [0]
 ·have hd:¬ ((k:Int)<((t+1:Nat):Int)):=by omega
  rw [xf (show k=q.length by omega)];generalize q.map (λs=>s &&& m)= acc at *;rw [eQ (by intro c; apply hne; cases acc with | nil=>rfl | cons x r=>cases c),lN (by intro c; apply hne; cases acc with | nil=>rfl | cons x r=>cases c),xT];refine xH hd ?_;exact .same
theorem qk (p:yT) {st:List (BitVec 64)} {a t:Nat} (ha:a<p.xV.length) (ht:t<st.length) (hl:t<=1000) :
  xQ prog 79 [p.d,.sl 1 (us st),.int .i64 a,.int .i64 t] jR (.yD 0 1 (vG p.xV st a t).length) ⟨1,[(0,⟨1,us (vG p.xV st a t)⟩)]⟩:=by
 have hne:=VY (xV:=p.xV) (a:=a) ht;have hL:=yz (xV:=p.xV) (a:=a) ht;have hga:=yF p.xV ha;have hha:((a:Int)<(p.xV.length:Int)):=by omega
 unfold vG at hne hL ⊢;generalize p.xV.getD a 0=m at *;have hD:p.d = .agg [.int .i64 p.F,.sl 1 (us p.init),.sl 1 (us p.xV),.sl 1 (uK p.xO),.sl 1 (uJ p.code)]:=rfl;rw [hD];refine xI func79 Fg λhf=>?_;refine zI ?_
 refine xU (λk:Nat=>[(10,.int .i64 k),(9,xB 1 1 (us ((st.take k).map λs=>s &&& m))),(4,.ref 0 5 0 0),(3,.int .i64 t),(2,.int .i64 a),(1,.sl 1 (us st))]) (λk=>⟨2,yX 1 1 (us ((st.take k).map λs=>s &&& m))++ [(0,⟨5,[p.cells]⟩)]⟩) (λk=>k<=t+1) (λk=>t+1-k) 0 (ψ _) ?_ ?_
 ·unfold yT.cells
  (refine rZ [] [0] ?_; simp only [wR,zQ,simprocAttr,-ZA,exists_eq_left',ne_eq,zR,List.take_zero,List.map_nil,iN,zK,zL,List.nil_append])
 intro k hk;refine xN mixed ?_;unfold yT.cells
 by_cases hh:k<t+1
 ·have hd:((k:Int)<=(t:Int)):=by omega
  have hd2:((k:Int)<(st.length:Int)):=by omega
  have hgq:=yF st (show k<st.length by omega);have ht2:(st.take (k+1)).map (λs=>s &&& m)= (st.take k).map (λs=>s &&& m)++ [st.getD k 0 &&& m]:=by rw [yE (d:=0) (by omega)]; simp
  have hkl:((st.take k).map λs=>s &&& m).length=k:=by simp; omega
  generalize (st.take k).map (λs=>s &&& m)= acc at hkl ht2 ⊢;generalize st.getD k 0=x at hgq ht2;refine pH hd xT hd2 hgq hha hga ?_;refine⟨k+1,by omega,?_,by omega⟩;rw [ht2];exact mD [(1,2)] [1,0]
 ·have hd:¬ ((k:Int)<=(t:Int)):=by omega
  obtain rfl:k=t+1:=by omega
  generalize (st.take (t+1)).map (λs=>s &&& m)= acc at *;rw [eQ (by intro c; apply hne; cases acc with | nil=>rfl | cons x r=>cases c),lN (by intro c; apply hne; cases acc with | nil=>rfl | cons x r=>cases c),xT];refine xH hd ?_
  (refine sH.VB [(0,1)] [0] (by simp) (by simp) (by decide) ?_; simp only [wR,zQ,simprocAttr,-ZA,exists_eq_left',ne_eq,zR])
theorem xj (a b:List Int):xA prog 29 [.sl 1 (rows .u64 a),.sl 1 (rows .u64 b)] (.int .i64 (kc a b)):=by
 refine xI func29 FC λhf=>?_;simp only [D.sR,D.fact,yU] at hf;have hlen:=hf.1.1
 by_cases h1:a.length<b.length
 ·have h1':(a.length:Int)<(b.length:Int):=by omega
  rw [show kc a b = -1 by unfold kc; rw [if_pos h1]];refine yO yU h1' ?_;exact .same
 have h1':¬ (a.length:Int)<(b.length:Int):=by omega
 by_cases h2:b.length<a.length
 ·have h2':(b.length:Int)<(a.length:Int):=by omega
  rw [show kc a b=1 by unfold kc; rw [if_neg h1,if_pos h2]];refine fY yU h1' h2' ?_;exact .same
 have h2':¬ (b.length:Int)<(a.length:Int):=by omega
 have he:kc a b=rG a b:=by unfold kc; rw [if_neg h1,if_neg h2]
 rw [he];have hab:a.length=b.length:=by omega
 refine fY yU h1' h2' ?_
 refine xU (λk:Nat=>[(5,.int .i64 k),(1,.sl 1 (rows .u64 b)),(0,.sl 1 (rows .u64 a))]) (λ_=>⟨0,[]⟩) (λk=>k<=a.length/\rG a b=rG (a.drop k) (b.drop k)) (λk=>a.length-k) 0 ⟨ψ _,rfl⟩ ?_ ?_
 ·exact wO
 intro k ⟨hk,hi⟩;refine xN mixed ?_
 by_cases h:k<a.length
 ·have hd:((k:Int)<(a.length:Int)):=by omega
  have hd2:((k:Int)<(b.length:Int)):=by omega
  rw [drop_cons (d:=0) h,drop_cons (d:=0) (show k<b.length by omega),fk] at hi;have g1:=wU .u64 a h;have g2:=wU .u64 b (show k<b.length by omega);generalize a.getD k 0=x at hi g1;generalize b.getD k 0=y at hi g2
  by_cases c1:x<y
  ·rw [if_pos c1] at hi;rw [hi];refine pH yU hd hd2 g1 g2 c1 ?_;exact .same
  ·by_cases c2:y<x
   ·rw [if_neg c1,if_pos c2] at hi;rw [hi];refine cF yU hd hd2 g1 g2 c1 c2 ?_;exact .same
   ·rw [if_neg c1,if_neg c2] at hi;refine cF yU hd hd2 g1 g2 c1 c2 ?_;refine⟨k+1,⟨by omega,hi⟩,?_,by omega⟩;exact yL
 ·have hd:¬ ((k:Int)<(a.length:Int)):=by omega
  rw [γ (show a.length<=k by omega),γ (show b.length<=k by omega)] at hi;rw [hi];refine yO yU hd ?_;exact .same
end Go.Pd

/- Part SQ. -/
namespace Go.Pd
open Go Go.Proofs
section
open Ru
end
section
open Ru
theorem aT {nx n key sz:Nat} {xZ:List (Nat × Ob)} {xW:List (List D)} (hs:0<sz) (hp:∀ e ∈ xW,D.xR e=true) (h:St.look xZ key=vA sz xW) {ρ:Nat->Nat}:vw ⟨nx,xZ⟩ ⟨n,[]⟩ ρ (xB key sz xW) (.sl sz xW):=by
 cases xW with
 | nil=>simp [xB,vw]
 | cons e r=> simp only [xB,vw];refine⟨trivial,hs,by simp,⟨sz,e :: r⟩,?_,rfl,by simp,by simp,hp⟩;show St.look xZ key=_;rw [h]; rfl
namespace Ru
def iS (T n:Nat):List (Nat × Nat):=(List.range n).map λi=>(i / T,i % T)
theorem nT (T n:Nat):(iS T n).length=n:=by simp [iS]
theorem Ou (T:Nat) {n i:Nat} (h:i<n):(iS T n).getD i (0,0)= (i / T,i % T):=by simp [iS,List.getD,h]
theorem R9 (T r t:Nat) (ht:t<T):iS T (r*T+(t+1))= iS T (r*T+t)++ [(r,t)]:=by
 rw [show r*T+(t+1)= (r*T+t)+ 1 by omega];unfold iS;rw [List.range_succ,List.map_append,List.map_singleton]
 have e1:(r*T+t)/ T=r:=by rw [Nat.mul_comm,Nat.mul_add_div (by omega),Nat.div_eq_of_lt ht]; rfl
 have e2:(r*T+t) % T=t:=by rw [Nat.mul_comm,Nat.mul_add_mod,Nat.mod_eq_of_lt ht]
 rw [e1,e2]
end Ru
end
section
namespace Ru
def vJ (rs:List wX) (a:Nat) (p:Nat × Nat):Int:=((rs.getD p.1 pG).loc.getD p.2 []).getD a 0
def bf (rs:List wX) (p:Nat × Nat):BitVec 64:=(rs.getD p.1 pG).ye.getD p.2 0
def oO (rs:List wX) (l:List (Nat × Nat)) (f:Nat):Nat->BitVec 64
 | 0=>0#64
 | k+1=>oO rs l f k ||| (if (bf rs (l.getD k (0,0))).getLsbD f then 1#64 <<< k else 0#64)
def pF (rs:List wX) (l:List (Nat × Nat)) (a:Nat) (x:Int):Nat->BitVec 64
 | 0=>0#64
 | k+1=>pF rs l a x k ||| (if vJ rs a (l.getD k (0,0))= x then 1#64 <<< k else 0#64)
def qV (rs:List wX) (l:List (Nat × Nat)) (F:Nat):List (BitVec 64):=(List.range F).map λf=>oO rs l f l.length
def tO (rs:List wX) (l:List (Nat × Nat)) (a:Nat):List (BitVec 64):=l.map λp=>pF rs l a (vJ rs a p) l.length
def tJ (rs:List wX) (l:List (Nat × Nat)) (A:Nat):List (List (BitVec 64)):=(List.range A).map (tO rs l)
def kd (rs:List wX) (l:List (Nat × Nat)) (A F:Nat):D:=.agg [.int .i64 (l.length:Int),.sl 1 (us (qV rs l F)),.sl 1 (rr (tJ rs l A))]
structure k8 (rs : List wX) (A F T : Nat) : Prop where
 hA:A<=4
 hF:F<=8
 hT:1<=T/\T<=16
 hR:1<=rs.length/\rs.length<=64
 hP:rs.length*T<=512
 loc:∀ r ∈ rs,r.loc.length=T
 ye:∀ r ∈ rs,r.ye.length=T
 row:∀ r ∈ rs,∀ l ∈ r.loc,l.length=A
 val:∀ r ∈ rs,∀ f ∈ r.ye,f >>> F=0#64
def sD (A F T:Nat) (rs:List wX):D:=.agg [.int .i64 (A:Int),.int .i64 (F:Int),.int .i64 (T:Int),.sl 2 (sY rs)]
theorem kK (x:Int):∀ (l:List (Int × D)) (i:Nat),qH x l i=(qH x l 0).map λp=>(p.1+i,p.2)
 | [],i=>rfl
 | (k,d) :: r,i=>by
  unfold qH
  by_cases h:x=k
  ·rw [if_pos h,if_pos h]; simp
  ·rw [if_neg h,if_neg h,kK x r (i+1),kK x r (0+1)]
   cases qH x r 0 with
   | none=>rfl
   | some p=>simp; omega
end Ru
open Ru
end
open Ru
namespace Ru
def fU (F:Nat) (g h:Nat->BitVec 64) (i:Nat):List (BitVec 64):=(List.range F).map λf=>if f<i then g f else h f
theorem pk (F:Nat) (g h:Nat->BitVec 64) (i:Nat):(fU F g h i).length=F:=by simp [fU]
theorem gg (F:Nat) (g h:Nat->BitVec 64):fU F g h 0=(List.range F).map h:=by simp [fU]
theorem XB (F:Nat) (g h:Nat->BitVec 64) {i:Nat} (hi:F<=i):fU F g h i=(List.range F).map g:=by refine δ λf hf=>?_;rw [if_pos (by have:=List.mem_range.1 hf; omega)]
theorem XC {F:Nat} (g h:Nat->BitVec 64) {i:Nat} (hi:i<F):(fU F g h i).getD i 0=h i:=by simp [fU,List.getD,hi]
theorem XD (F:Nat) (g h:Nat->BitVec 64) (i:Nat):(fU F g h i).set i (g i)= fU F g h (i+1):=by
 refine ζ (by simp [fU]) λk h1 h2=>?_;rw [List.getElem_set];simp only [fU,υ,List.getElem_range]
 by_cases e:i=k
 ·subst e; rw [if_pos rfl,if_pos (by omega)]
 ·rw [if_neg e]
  by_cases hk:k<i
  ·rw [if_pos hk,if_pos (by omega)]
  ·rw [if_neg hk,if_neg (by omega)]
theorem Np (x:BitVec 64) (f w:Nat):(x >>> f &&& 1#64) <<< w=if x.getLsbD f then 1#64 <<< w else 0#64:=by
 rw [yt]
 split
 ·rfl
 ·exact BitVec.zero_shiftLeft _
end Ru
end Go.Pd

/- Part S7. -/
namespace Go.Pd
open Go Go.Proofs
open BitVec renaming isValue -> ZA
namespace Ru
structure vZ where
 W:Int
 V:List (BitVec 64)
 R:List (List (BitVec 64))
def vZ.d (m:vZ):D:=.agg [.int .i64 m.W,.sl 1 (us m.V),.sl 1 (rr m.R)]
def wM (n:Nat):BitVec 64:=if 64<=n then 18446744073709551615#64 else 1#64 <<< n-1#64
def iQ (n:Nat) (x:BitVec 64):Bool:=!decide (x &&& ~~~(wM n)= 0#64)
structure qG (m : vZ) (W : Nat) : Prop where
 w:m.W=W
 hW:1<=W/\W<=64
 hV:m.V.length<=8
 hR:m.R.length<=4
 row:∀ r ∈ m.R,r.length=W
 val:∀ x ∈ m.V,iQ W x=false
 rel:∀ r ∈ m.R,∀ x ∈ r,iQ W x=false
theorem uL {n:Nat} (hn:n<=64) {i:Nat} (hi:i<64):(wM n).getLsbD i=decide (i<n):=by
 unfold wM
 by_cases h:64<=n
 ·rw [if_pos h,show 18446744073709551615#64=BitVec.allOnes 64 from rfl,BitVec.getLsbD_allOnes];simp [hi]; omega
 ·rw [if_neg h];have:∀ n,n<64->∀ i,i<64->(1#64 <<< n-1#64).getLsbD i=decide (i<n):=by decide
  exact this n (by omega) i hi
theorem w8 {n:Nat} (hn:n<=64) {x:BitVec 64} (h:∀ i,x.getLsbD i=true->i<n):iQ n x=false:=by
 unfold iQ;rw [Bool.not_eq_false',decide_eq_true_iff];refine BitVec.eq_of_getLsbD_eq λi hi=>?_;rw [BitVec.getLsbD_and,BitVec.getLsbD_not,uL hn hi,BitVec.getLsbD_zero]
 cases hx:x.getLsbD i
 ·rfl
 ·simp [h i hx]
end Ru
open Ru
theorem OG {σ:St} {g:FuncId} {caps:List D} {f:List (BitVec 64)->Bool} {l:List (List (BitVec 64))} (hl:l.length<=1000) (h:∀ x ∈ l,xQ prog g ([.sl 1 (us x)]++caps) σ (.bool (f x)) σ):xQ prog 199 [.sl 1 (rr l),.fn g caps] σ (.int .i64 (kH f l 0)) σ:=by
 refine xI func199 JC λhf=>?_;refine xH yZ ?_
 refine xU (λk:Nat=>[(8,.int .i64 k),(7,.int .i64 l.length),(1,.fn g caps),(0,.sl 1 (rr l))]) (λ_=>σ) (λk=>k<=l.length/\kH f l 0=kH f (l.drop k) k) (λk=>l.length-k) 0 ⟨ψ _,rfl⟩ ?_ ?_
 ·exact wO
 intro k ⟨hk,hi⟩;refine xN mixed ?_
 by_cases hh:k<l.length
 ·have hd:((k:Int)<(l.length:Int)):=by omega
  rw [drop_cons (d:=[]) hh,kH] at hi;simp only [simprocAttr,-ZA,↓zU,↓zD,zV,zT,zW,hd,yZ,tZ _ hh]
  (repeat refine sd ?_)
  refine .go (h _ (xK hh)) ?_
  cases hx:f (l.getD k [])
  ·rw [hx,if_neg (by simp)] at hi;refine xJ ?_;refine⟨k+1,⟨by omega,hi⟩,?_,by omega⟩;exact yL
  ·rw [hx,if_pos rfl] at hi;refine xJ ?_;rw [hi];exact .same
 ·have hd:¬ ((k:Int)<(l.length:Int)):=by omega
  rw [γ (by omega),kH] at hi;refine xH hd ?_;rw [hi];exact .same
theorem WM {σ:St} {g:FuncId} {caps:List D} {f:List (BitVec 64)->Bool} {l:List (List (BitVec 64))} (hl:l.length<=1000) (h:∀ x ∈ l,xQ prog g ([.sl 1 (us x)]++caps) σ (.bool (f x)) σ):xQ prog 139 [.sl 1 (rr l),.fn g caps] σ (.bool (l.any f)) σ:=by
 refine xI func139 Ij λhf=>?_;refine xJ ?_;refine .go (OG hl h) ?_;have hx:=dR (f:=f) (c:=l) (i:=0) (Int.le_refl 0)
 cases ha:l.any f
 ·have h1:¬ 0<=kH f l 0:=λy=>by rw [hx.1 y] at ha; cases ha
  refine xH h1 ?_;exact .same
 ·have h1:=hx.2 ha;refine xH h1 ?_;exact .same
theorem K8 (n:Nat):xA prog 198 [.int .i64 n] (.int .u64 (ui (wM n))):=by
 refine xI func198 JB λhf=>?_;unfold wM
 by_cases h:64<=n
 ·have e:(64:Int)<=(n:Int):=by omega
  rw [if_pos h];refine xH e ?_;exact .same
 ·have e:¬ (64:Int)<=(n:Int):=by omega
  rw [if_neg h];refine vR e ?_;exact .same
theorem Ka {n nx:Nat} {xZ:List (Nat × Ob)} {k:Nat} (h0:St.look xZ k=some ⟨1,[[.int .i64 n]]⟩) (x:BitVec 64):xQ prog 197 ([.int .u64 (ui x)] ++ [.ref k 1 0 0]) ⟨nx,xZ⟩ (.bool (iQ n x)) ⟨nx,xZ⟩:=by refine xI func197 J9 λhf=>?_;refine vR h0 ?_;refine .go (cq (K8 n)) ?_;refine xJ ?_;rw [show (x &&& ~~~(wM n) != 0#64)= iQ n x by unfold iQ; rw [bne]; congr 1];exact .same
theorem gm {l:List (BitVec 64)} (hl:l.length<=1000) (n:Nat):xA prog 138 [.sl 1 (us l),.int .i64 n] (.bool (l.any (iQ n))):=by refine xI func138 Ii λhf=>?_;refine xJ ?_;refine .go (aP (caps:=[.ref 0 1 0 0]) hl λx _=>Ka rfl x) ?_;refine xJ ?_;exact .dv
theorem KH {m:vZ} {W:Nat} (hw:m.W=W) {nx:Nat} {xZ:List (Nat × Ob)} (h0:St.look xZ 0=some ⟨3,[[.int .i64 m.W,.sl 1 (us m.V),.sl 1 (rr m.R)]]⟩) {x:List (BitVec 64)} (hx:x.length<=1000):xQ prog 140 ([.sl 1 (us x)] ++ [.ref 0 3 0 0]) ⟨nx,xZ⟩ (.bool (x.any (iQ W))) ⟨nx,xZ⟩:=by refine xI func140 Ik λhf=>?_;refine nQ h0 hw ?_;refine .go (cr (gm hx W)) ?_;refine xJ ?_;exact .same
theorem ni {m:vZ} {W:Nat} (ok:qG m W):xA prog 90 [m.d] (.int .i64 0):=by
 obtain⟨W1,W64⟩:=ok.hW;have h1:¬ (W:Int)<1:=by omega
 have h2:¬ (64:Int)<(W:Int):=by omega
 have h3:¬ (4:Int)<(m.R.length:Int):=by have:=ok.hR; omega
 have h4:¬ (8:Int)<(m.V.length:Int):=by have:=ok.hV; omega
 have hv:m.V.any (iQ W)= false:=θ.2 λx hx=>by rw [ok.val x hx]; simp
 have hr:m.R.any (λx=>x.any (iQ W))= false:=θ.2 λx hx=>by rw [θ.2 λy hy=>by rw [ok.rel x hx y hy]; simp]; simp
 have ho:=gm (l:=m.V) (by have:=ok.hV; omega) W;have hc:=WM (σ:=⟨1,[(0,⟨3,[[.int .i64 m.W,.sl 1 (us m.V),.sl 1 (rr m.R)]]⟩)]⟩) (g:=140) (caps:=[.ref 0 3 0 0]) (f:=λx=>x.any (iQ W)) (l:=m.R) (by have:=ok.hR; omega) λx hx=>KH ok.w rfl (by rw [ok.row x hx]; omega);rw [hv] at ho;rw [hr,ok.w] at hc;unfold vZ.d;refine xI func90 Fq λhf=>?_;simp only [simprocAttr,-ZA,↓zU,↓zD,zV,zT,zW,ok.w,h1,h2,yZ,xT,h3,h4]
 refine xU (λk:Nat=>[(26,.int .i64 k),(25,.int .i64 m.R.length),(24,.sl 1 (rr m.R)),(1,.ref 0 3 0 0)]) (λ_=>⟨1,[(0,⟨3,[[.int .i64 W,.sl 1 (us m.V),.sl 1 (rr m.R)]]⟩)]⟩)
  (λk=>k<=m.R.length) (λk=>m.R.length-k) 0 (ψ _) ?_ ?_
 ·exact wO
 intro k hk;refine xN mixed ?_
 by_cases h:k<m.R.length
 ·have hd:((k:Int)<(m.R.length:Int)):=by omega
  have hrw:=ok.row _ (xK (d:=[]) h);have hg:=tZ m.R h;generalize m.R.getD k []=r at hrw hg;have e:((r.length:Int) != (W:Int))= false:=by rw [hrw]; simp
  refine rI hd yZ hg xT e ?_;refine⟨k+1,by omega,?_,by omega⟩;exact yL
 ·have hd:¬ ((k:Int)<(m.R.length:Int)):=by omega
  refine xH hd ?_;refine .go (cr ho) ?_;refine xJ ?_;refine .go hc ?_;refine xJ ?_;exact .dv
end Go.Pd
