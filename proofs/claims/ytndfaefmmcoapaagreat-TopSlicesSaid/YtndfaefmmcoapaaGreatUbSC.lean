/- Part SC. -/
import Derived.Test.YtndfaefmmcoapaaGreatUbF18
import Derived.Test.YtndfaefmmcoapaaGreatUbX6
import Derived.Shelf.SlSortCmp.NoneTotal
set_option linter.unusedSectionVars false
set_option linter.unusedVariables false
set_option linter.unusedSimpArgs false
set_option linter.defProp false
set_option maxRecDepth 20000
set_option maxHeartbeats 1000000
open Go.Proofs.Tryz
open List renaming drop_eq_nil_of_le->γ,map_congr_left->δ,length_append->ε,mem_map->ζ,map_map->η,map_id->θ,take_length->κ,length_take->μ,length_set->ν,length_pos_iff->ξ,length_cons->ο,ext_getElem->π,pairwise_iff_getElem->τ,take_set_of_le->υ,length_drop->χ,filter_cons->ω
open Nat renaming le_refl->Aa,zero_le->Ab,lt_succ_self->Ac,mul_one->Ad,lt_of_lt_of_le->Ae
open Array renaming getElem?_append_left->Af,getElem?_eq_some_iff->Ag,getElem?_modify->Ah,ext_getElem?->Ai
open Int renaming toNat_natCast->Aj
namespace Go.Pd
open Go Go.Proofs
open BitVec renaming isValue -> ZA
open Ru
namespace Ru
def pK : List Int->List Int->Int
 | [],[]=>0
 | [],_ :: _=>-1
 | _ :: _,[]=>1
 | x :: a,y :: b=>if x<y then -1 else if y<x then 1 else pK a b
theorem rh : ∀ a:List Int,pK a a=0
 | []=>rfl
 | x :: a=>by unfold pK; rw [if_neg (by omega),if_neg (by omega)]; exact rh a
theorem aB : ∀ a b:List Int,pK a b = -1\/pK a b=0\/pK a b=1
 | [],[]=>.inr (.inl rfl)
 | [],_ :: _=>.inl rfl
 | _ :: _,[]=>.inr (.inr rfl)
 | x :: a,y :: b=>by
  unfold pK
  split
  ·exact .inl rfl
  ·split
   ·exact .inr (.inr rfl)
   ·exact aB a b
theorem ri : ∀ {a b:List Int},pK a b=0->a=b
 | [],[],_=>rfl
 | [],_ :: _,h=>by simp [pK] at h
 | _ :: _,[],h=>by simp [pK] at h
 | x :: a,y :: b,h=>by
  unfold pK at h
  split at h
  ·omega
  ·split at h
   ·omega
   ·rw [ri h,show x=y by omega]
theorem re : ∀ a b:List Int,pK b a =-pK a b
 | [],[]=>rfl
 | [],_ :: _=>rfl
 | _ :: _,[]=>rfl
 | x :: a,y :: b=>by
  unfold pK
  by_cases h1:x<y
  ·rw [if_pos h1,if_neg (by omega),if_pos h1]; rfl
  ·by_cases h2:y<x
   ·rw [if_pos h2,if_neg h1,if_pos h2]
   ·rw [if_neg h2,if_neg h1,if_neg h1,if_neg h2]; exact re a b
theorem aD : ∀ {a b c:List Int},pK a b<0->pK b c<0->pK a c<0
 | [],[],_,h,_=>by simp [pK] at h
 | [],_ :: _,[],_,h=>by simp [pK] at h
 | [],_ :: _,_ :: _,_,_=>by simp [pK]
 | _ :: _,[],_,h,_=>by simp [pK] at h
 | _ :: _,_ :: _,[],_,h=>by simp [pK] at h
 | x :: a,y :: b,z :: c,h1,h2=>by
  unfold pK at h1 h2 ⊢
  by_cases hxy:x<y
  ·by_cases hyz:z<y
   ·rw [if_neg (by omega),if_pos hyz] at h2; omega
   ·rw [if_pos (by omega)]; omega
  ·rw [if_neg hxy] at h1
   by_cases hyx:y<x
   ·rw [if_pos hyx] at h1; omega
   ·rw [if_neg hyx] at h1
    by_cases hyz:y<z
    ·rw [if_pos (by omega)]; omega
    ·rw [if_neg hyz] at h2
     by_cases hzy:z<y
     ·rw [if_pos hzy] at h2; omega
     ·rw [if_neg hzy] at h2;rw [if_neg (by omega),if_neg (by omega)];exact aD h1 h2
theorem cg (b:List Int):pK [] b=if b.length=0 then 0 else -1:=by cases b <;> rfl
def kc (a b:List Int):Int:=if a.length<b.length then -1 else if b.length<a.length then 1 else pK a b
theorem lz (a:List Int):kc a a=0:=by unfold kc; rw [if_neg (by omega),if_neg (by omega)]; exact rh a
theorem cd (a b:List Int):kc a b = -1\/kc a b=0\/kc a b=1:=by
 have:=aB a b
 unfold kc; split
 ·exact .inl rfl
 ·split
  ·exact .inr (.inr rfl)
  ·exact this
theorem zz {a b:List Int} (h:kc a b=0):a=b:=by
 unfold kc at h
 split at h
 ·omega
 ·split at h
  ·omega
  ·exact ri h
theorem oK (a b:List Int):kc b a =-kc a b:=by
 have:=re a b;unfold kc
 by_cases h1:a.length<b.length
 ·rw [if_neg (by omega),if_pos h1,if_pos h1]; rfl
 ·by_cases h2:b.length<a.length
  ·rw [if_pos h2,if_neg h1,if_pos h2]
  ·rw [if_neg h2,if_neg h1,if_neg h1,if_neg h2]; exact this
theorem gI {a b c:List Int} (h1:kc a b<0) (h2:kc b c<0):kc a c<0:=by
 have:=@aD a b c;unfold kc at h1 h2 ⊢
 by_cases x1:a.length<c.length
 ·rw [if_pos x1]; omega
 rw [if_neg x1]
 by_cases y1:a.length<b.length
 ·rw [if_neg (by omega),if_pos (by omega)] at h2; omega
 ·rw [if_neg y1] at h1
  by_cases y2:b.length<a.length
  ·rw [if_pos y2] at h1; omega
  ·rw [if_neg y2] at h1;rw [if_neg (by omega)] at h2
   by_cases y3:c.length<b.length
   ·rw [if_pos y3] at h2; omega
   ·rw [if_neg y3] at h2;rw [if_neg (by omega)];exact this h1 h2
theorem oC {a b c:List Int} (h1:¬ kc a b<0) (h2:¬ kc b c<0):¬ kc a c<0:=by
 intro h
 by_cases e1:kc a b=0
 ·rw [zz e1] at h; exact h2 h
 ·by_cases e2:kc b c=0
  ·rw [<- zz e2] at h; exact h1 h
  ·have r1:=cd a b;have r2:=cd b c;have a1:=oK a b;have a2:=oK b c;have a3:=oK a c;have:=gI (a:=c) (b:=b) (c:=a) (by omega) (by omega);omega
end Ru
theorem P7 (a:Int):zX prog 225 [.int .i64 a] (.bool false):=by refine xY.xP mixed func225 M6 (by simp) λhf=>?_;simp only [simprocAttr,-ZA,↓zU,↓zD,zV,zT,zW];exact .same
theorem Ro (a b:Int):zX prog 185 [.int .i64 a,.int .i64 b] (.int .i64 (if a<b then -1 else if b<a then 1 else 0)):=by
 refine xY.xP mixed func185 Lf (by simp) λhf=>?_;simp only [simprocAttr,-ZA,↓zU,↓zD,zV,zT,zW];refine .go (cq (P7 a)) ?_;simp only [simprocAttr,-ZA,↓zU,↓zD,zV,zT,zW];refine .go (cq (P7 b)) ?_
 by_cases h1:a<b
 ·simp only [simprocAttr,-ZA,↓zU,↓zD,zV,zT,zW,h1];exact .same
 ·by_cases h2:b<a
  ·simp only [simprocAttr,-ZA,↓zU,↓zD,zV,zT,zW,h1,h2];exact .same
  ·simp only [simprocAttr,-ZA,↓zU,↓zD,zV,zT,zW,h1,h2];exact .same
theorem aC (x:Int) (a:List Int):pK (x :: a) []=1:=rfl
theorem rf (x y:Int) (a b:List Int):pK (x :: a) (y :: b)= if x<y then -1 else if y<x then 1 else pK a b:=rfl
theorem Mv (a b:List Int):zX prog 213 [.sl 1 (rows .i64 a),.sl 1 (rows .i64 b)] (.int .i64 (pK a b)):=by
 refine xY.xP mixed func213 Lw (by simp) λhf=>?_;simp only [D.sT,D.fact,yZ] at hf;have hlen:=hf.1.1;simp only [simprocAttr,-ZA,↓zU,↓zD,zV,zT,zW]
 refine xT (λk:Nat=>[(11,.int .i64 k),(10,.int .i64 a.length),(9,.sl 1 (rows .i64 a)),(1,.sl 1 (rows .i64 b)),(0,.sl 1 (rows .i64 a))]) (λ_=>⟨0,[]⟩) (λk=>k<=a.length/\k<=b.length/\pK a b=pK (a.drop k) (b.drop k)) (λk=>a.length-k) 0 ⟨Ab _,Ab _,rfl⟩ ?_ ?_
 ·(refine xN.same ?_; simp [xQ,Fr.get])
 intro k ⟨hk,hk2,hi⟩;refine xO mixed ?_
 by_cases h:k<a.length
 ·have hd:((k:Int)<(a.length:Int)):=by omega
  have e1:a.drop k=a.getD k 0 :: a.drop (k+1):=by simp [List.getD,h]
  rw [e1] at hi
  by_cases h2:k<b.length
  ·have hd2:¬ ((b.length:Int)<=(k:Int)):=by omega
   have hd3:((k:Int)<(b.length:Int)):=by omega
   have e2:b.drop k=b.getD k 0 :: b.drop (k+1):=by simp [List.getD,h2]
   rw [e2,rf] at hi;simp only [simprocAttr,-ZA,↓zU,↓zD,zV,zT,zW,hd,yV .i64 a h,hd2,hd3,yV .i64 b h2]
   (repeat refine sd ?_)
   refine .go (xY.yO (Ro (a.getD k 0) (b.getD k 0)) rfl) ?_
   by_cases c1:a.getD k 0<b.getD k 0
   ·rw [if_pos c1] at hi ⊢;simp only [simprocAttr,-ZA,↓zU,↓zD,zV,zT,zW];rw [hi];exact .same
   ·by_cases c2:b.getD k 0<a.getD k 0
    ·rw [if_neg c1,if_pos c2] at hi ⊢;simp only [simprocAttr,-ZA,↓zU,↓zD,zV,zT,zW];rw [hi];exact .same
    ·rw [if_neg c1,if_neg c2] at hi ⊢;simp only [simprocAttr,-ZA,↓zU,↓zD,zV,zT,zW];refine⟨k+1,⟨by omega,by omega,hi⟩,?_,by omega⟩
     (refine xN.same ?_; simp only [xQ,Fr.get,simprocAttr,-ZA,zS])
     exact wrap_i64 (by omega)
  ·have hd2:((b.length:Int)<=(k:Int)):=by omega
   rw [γ (show b.length<=k by omega),aC] at hi;simp only [simprocAttr,-ZA,↓zU,↓zD,zV,zT,zW,hd,yV .i64 a h,hd2]
   (repeat refine sd ?_)
   rw [hi];exact .same
 ·have hd:¬ ((k:Int)<(a.length:Int)):=by omega
  rw [γ (show a.length<=k by omega),cg,χ] at hi
  by_cases c:a.length<b.length
  ·have c':(a.length:Int)<(b.length:Int):=by omega
   rw [if_neg (by omega)] at hi;simp only [simprocAttr,-ZA,↓zU,↓zD,zV,zT,zW,hd,c'];rw [hi];exact .same
  ·have c':¬ (a.length:Int)<(b.length:Int):=by omega
   rw [if_pos (by omega)] at hi;simp only [simprocAttr,-ZA,↓zU,↓zD,zV,zT,zW,hd,c'];rw [hi];exact .same
theorem Zr (a b:List Int):zX prog 87 [.sl 1 (rows .i64 a),.sl 1 (rows .i64 b)] (.bool (decide (a=b))):=by
 refine xY.xP mixed func87 k87 (by simp) λhf=>?_;simp only [D.sT,D.fact,yZ] at hf;have hlen:=hf.1.1;by_cases h1:a.length=b.length
 case neg=>
  have h1':((a.length:Int) != (b.length:Int))= true:=by simp; omega
  simp only [simprocAttr,-ZA,↓zU,↓zD,zV,zT,zW,h1'];exact .drop (by simp) (by simp only [vw,D.bool.injEq]; symm; apply decide_eq_false; rintro rfl; exact h1 rfl)
 have h1':((a.length:Int) != (b.length:Int))= false:=by simp; omega
 simp only [simprocAttr,-ZA,↓zU,↓zD,zV,zT,zW,h1']
 refine xT (λk:Nat=>[(13,.int .i64 k),(12,.int .i64 a.length),(1,.sl 1 (rows .i64 b)),(0,.sl 1 (rows .i64 a))]) (λ_=>⟨0,[]⟩) (λk=>k<=a.length/\∀ i,i<k->a.getD i 0=b.getD i 0) (λk=>a.length-k) 0 ⟨Ab _,λi hi=>by omega⟩ ?_ ?_
 ·(refine xN.same ?_; simp [xQ,Fr.get])
 intro k ⟨hk,hi⟩;refine xO mixed ?_
 by_cases h:k<a.length
 ·have hd:((k:Int)<(a.length:Int)):=by omega
  by_cases hb:a.getD k 0=b.getD k 0
  ·have hb1:(a.getD k 0 != b.getD k 0)= false:=by simp only [hb,bne_self_eq_false]
   simp only [simprocAttr,-ZA,↓zU,↓zD,zV,zT,zW,hd,yV _ _ h,yV .i64 b (show k<b.length by omega),hb1]
   (repeat refine sd ?_)
   refine⟨k+1,⟨by omega,λi hi2=>?_⟩,?_,by omega⟩
   ·by_cases ei:i=k
    ·rw [ei,hb]
    ·exact hi i (by omega)
   (refine xN.same ?_; simp only [xQ,Fr.get,simprocAttr,-ZA,zS])
   exact wrap_i64 (by omega)
  ·have hb1:(a.getD k 0 != b.getD k 0)= true:=bne_iff_ne.2 hb;simp only [simprocAttr,-ZA,↓zU,↓zD,zV,zT,zW,hd,yV _ _ h,yV .i64 b (show k<b.length by omega),hb1]
   (repeat refine sd ?_)
   exact .drop (by simp) (by simp only [vw,D.bool.injEq]; symm; apply decide_eq_false; rintro rfl; exact hb rfl)
 ·have hd:¬ ((k:Int)<(a.length:Int)):=by omega
  have hk':k=a.length:=by omega
  subst hk';simp only [simprocAttr,-ZA,↓zU,↓zD,zV,zT,zW,hd];refine .drop (by simp) ?_;simp only [vw,D.bool.injEq]; symm; apply decide_eq_true;refine π h1 λi h2 h3=>?_;have:=hi i h2;simpa [List.getD,h2,h3] using this
theorem MX (x y:Int):zX prog 184 [.sl 1 (rows .i64 [x,y])] (.int .i64 (if x≠0 then x else y)):=by
 refine xY.xP mixed func184 Le (by simp) λhf=>?_;simp only [simprocAttr,-ZA,↓zU,↓zD,zV,zT,zW]
 refine xT (λk:Nat=>[(8,.int .i64 k),(7,.int .i64 2),(6,.sl 1 (rows .i64 [x,y])),(3,.int .i64 0)]) (λ_=>⟨0,[]⟩) (λk=>k<=2/\(0<k->x=0)/\ (1<k->y=0)) (λk=>2-k) 0 ⟨by omega,by omega,by omega⟩ ?_ ?_
 ·(refine xN.same ?_; simp [xQ,Fr.get,rows])
 intro k ⟨hk,h0,h1⟩;refine xO mixed ?_
 obtain rfl | rfl | rfl:k=0\/k=1\/k=2:=by omega
 ·by_cases e:x=0
  ·have e':(x != 0)= false:=by simpa using e
   simp only [simprocAttr,-ZA,↓zU,↓zD,zV,zT,zW,e']
   (repeat refine sd ?_)
   exact⟨1,⟨by omega,λ_=>e,by omega⟩,by(refine xN.same ?_; simp only [xQ,Fr.get,simprocAttr,-ZA,zS]); rfl,by omega⟩
  ·have e':(x != 0)= true:=by simpa using e
   simp only [simprocAttr,-ZA,↓zU,↓zD,zV,zT,zW,e']
   (repeat refine sd ?_)
   rw [if_pos e];exact .same
 ·have e0:=h0 (by omega);have c1:((1:Nat):Int)= 1:=rfl
  by_cases e:y=0
  ·have e':(y != 0)= false:=by simpa using e
   simp only [simprocAttr,-ZA,↓zU,↓zD,zV,zT,zW,e',c1]
   (repeat refine sd ?_)
   exact⟨2,⟨by omega,λ_=>e0,λ_=>e⟩,by(refine xN.same ?_; simp only [xQ,Fr.get,simprocAttr,-ZA,zS]); rfl,by omega⟩
  ·have e':(y != 0)= true:=by simpa using e
   simp only [simprocAttr,-ZA,↓zU,↓zD,zV,zT,zW,e',c1]
   (repeat refine sd ?_)
   rw [if_neg (by omega)];exact .same
 ·have e0:=h0 (by omega);have e1:=h1 (by omega);have c1:((2:Nat):Int)= 2:=rfl;simp only [simprocAttr,-ZA,↓zU,↓zD,zV,zT,zW,c1];rw [if_neg (by omega),e1];exact .same
theorem cX (a b:List Int):zX prog 172 [.sl 1 (rows .i64 a),.sl 1 (rows .i64 b)] (.int .i64 (kc a b)):=by
 have h1:=Ro (a.length:Int) (b.length:Int);have h2:=Mv a b;have h3:=MX (if (a.length:Int)<(b.length:Int) then -1 else if (b.length:Int)<(a.length:Int) then 1 else 0) (pK a b)
 have e:(if (if (a.length:Int)<(b.length:Int) then(-1:Int) else if (b.length:Int)<(a.length:Int) then 1 else 0)≠ 0 then(if (a.length:Int)<(b.length:Int) then(-1:Int) else if (b.length:Int)<(a.length:Int) then 1 else 0) else pK a b)= kc a b:=by
  unfold kc
  by_cases c1:a.length<b.length
  ·rw [if_pos (show (a.length:Int)<b.length by omega),if_pos c1]; rfl
  ·rw [if_neg (show ¬ (a.length:Int)<b.length by omega),if_neg c1]
   by_cases c2:b.length<a.length
   ·rw [if_pos (show (b.length:Int)<a.length by omega),if_pos c2]; rfl
   ·rw [if_neg (show ¬ (b.length:Int)<a.length by omega),if_neg c2]; rfl
 rw [e] at h3;simp only [kB,nP] at h3;generalize (if (a.length:Int)<(b.length:Int) then(-1:Int) else if (b.length:Int)<(a.length:Int) then 1 else 0)= z at h1 h3;refine xY.xP mixed func172 LY (by simp) λhf=>?_;simp only [simprocAttr,-ZA,↓zU,↓zD,zV,zT,zW];refine .go (cq h1) ?_;simp only [simprocAttr,-ZA,↓zU,↓zD,zV,zT,zW];refine .go (cr h2) ?_;simp only [simprocAttr,-ZA,↓zU,↓zD,zV,zT,zW];refine⟨by simp [D.xU,D.xL],?_⟩;refine .go (cr h3) ?_;simp only [simprocAttr,-ZA,↓zU,↓zD,zV,zT,zW];exact .same
theorem P4 (a b:List Int):zX prog 174 [.sl 1 (rows .i64 a),.sl 1 (rows .i64 b)] (.bool (decide (a=b))):=by refine xY.xP mixed func174 La (by simp) λhf=>?_;simp only [simprocAttr,-ZA,↓zU,↓zD,zV,zT,zW];refine .go (cr (Zr a b)) ?_;simp only [simprocAttr,-ZA,↓zU,↓zD,zV,zT,zW];exact .same
end Go.Pd

/- Part X7. -/
namespace Go.Pd
open Go Go.Proofs Go.Shelf Go.Sort
variable [rL]
def vV (M:Nat->Prop) (w:World) (C:D->Prop):Type:={ p:Value × D // RP M w p.1 p.2/\p.1.oneCell'=true/\C p.2 }
theorem cD {α:Type} [Inhabited α] (enc:α->Value) (w:World) (blk off m:Nat) (d:Array α) (os:Array Obj) {b:Nat} (hb:b<w.heap.size) (hn:b≠blk):(sortWorld enc w blk off m d os).heap[b]?=w.heap[b]?:=by show (((Sort.ahead w m).heap.modify blk (onCells (putCells enc off d)))++ os)[b]?=_;rw [Af (by simpa using hb),Ah,if_neg (λe=>hn e.symm)];rfl
theorem bM {α:Type} [Inhabited α] (enc:α->Value) (w:World) (blk off m:Nat) (d:Array α) (os:Array Obj):w.heap.size<=(sortWorld enc w blk off m d os).heap.size:=by show w.heap.size<=(((Sort.ahead w m).heap.modify blk (onCells (putCells enc off d)))++ os).size;simp [Sort.ahead]
theorem pq {α:Type} [Inhabited α] (enc:α->Value) (w:World) (blk off m:Nat) (d:Array α) (os:Array Obj) {cur:Array Value} {e:TypeId} {fr:Nat × Nat} (hc:w.heap[blk]?=some (Obj.cells cur e fr)) :
  sortWorld enc w blk off m d os=grow ((w.setRow blk (putCells enc off d cur)).drewN m) os:=by
 unfold sortWorld;congr 1;unfold putRow mapBlock Sort.ahead World.drewN World.setRow;congr 1;apply Ai;intro k;simp only [Ah]
 by_cases hk:blk=k
 ·subst hk;simp only [if_true,hc,Option.map_some,onCells]
 ·simp [hk]
theorem Xx {w w':World} (h:Kept w w' λ_=>False):∃ q os,w'=grow (w.drewN q) os:=by
 refine⟨w'.drawn-w.drawn,w'.heap.extract w.heap.size w'.heap.size,?_⟩;have hd:=h.drawn;have hs:=h.size;obtain⟨heap,tape,drawn,os,output⟩:=w;obtain⟨heap',tape',drawn',os',output'⟩:=w';have h1:=h.os;have h2:=h.tape;have h3:=h.output;have h4:=h.block;simp only at h1 h2 h3 h4 hd hs;subst h1; subst h2; subst h3;unfold grow World.drewN;simp only [World.mk.injEq,and_true,true_and];refine⟨?_,by omega⟩;apply Ai;intro i
 by_cases hi:i<heap.size
 ·rw [Af hi,h4 i hi id]
 ·rw [Array.getElem?_append_right (by omega),Array.getElem?_extract]
  by_cases h2:i<heap'.size
  ·rw [if_pos (by omega)];congr 1; omega
  ·rw [if_neg (by omega)];exact Array.getElem?_eq_none (by omega)
theorem WW {w:World} (q:Nat) (os:Array Obj):Kept w (grow (w.drewN q) os) λ_=>False:=by
 refine⟨rfl,rfl,rfl,by simp [World.drewN],λb hb _=>?_,λb cur e h=>⟨cur,?_,rfl⟩,by show w.drawn<=w.drawn+q; omega⟩
 ·show (w.heap++os)[b]?=_;rw [Af hb]
 ·have hb:b<w.heap.size:=(Ag.1 h).1;show (w.heap++os)[b]?=_;rw [Af hb];exact h
def hd (e:List D):D:=e.getD 0 .top
def Zf (cf:D->D->Int) (els:List (List D)):Prop:=∀ i j,i<j->j<els.length->¬ cf (hd (els.getD j [])) (hd (els.getD i []))<0
def vV.enc {M:Nat->Prop} {w:World} {C:D->Prop} (a:vV M w C):Value:=a.1.1
def vV.dat {M:Nat->Prop} {w:World} {C:D->Prop} (a:vV M w C):D:=a.1.2
def vV.cf {M:Nat->Prop} {w:World} {C:D->Prop} (cf:D->D->Int) (a b:vV M w C):Int:=cf a.dat b.dat
theorem XX {α:Type} [Inhabited α] {n:Nat} {p:Nat->α->Prop} (h:∀ i,i<n->∃ a,p i a):∃ d:Array α,d.size=n/\∀ i,i<n->p i d[i]!:=by obtain⟨f,hf⟩:=Deep.choose_lt h;refine⟨((List.range n).map f).toArray,by simp,λi hi=>?_⟩;rw [getElem!_pos _ i (by simpa using hi)];simpa using hf i hi
theorem cJ {α:Type} (a:Array α):a.extract 0 a.size=a:=by simp
theorem ZK {P:Program} {g:FuncId} {C:D->Prop} {cf:D->D->Int} (hcmp:∀ x y,C x->C y->zX P g [x,y] (.int .i64 (cf x y))) {M0:Nat->Prop} {w:World} {σ:St} {ι:Nat->Nat} (hS:vL M0 w σ ι) {key:Nat} {ob:Ob} (hget:σ.get key=some ob) (size:Nat) [Inhabited (vV (Mof M0 ι σ) w C)] :
  CmpLays1 P g #[] (vV.enc (M:=Mof M0 ι σ) (w:=w) (C:=C)) (vV.cf cf) (ι key) 0 size w:=by
 intro m os dk hdk x y;have hne:∀ b,¬ Mof M0 ι σ b->b≠ι key:=λb hb e=>hb (.inr ⟨key,ob,hget,e.symm⟩)
 have hM:∀ b,Mof (Mof M0 ι σ) ι St0 b->Mof M0 ι σ b:=by
  rintro b (h | ⟨k,o,hk,_⟩)
  ·exact h
  ·cases hk
 have hsz:=bM vV.enc w (ι key) 0 m dk os;have hblock:∀ b,b<w.heap.size->¬ Mof M0 ι σ b->(sortWorld vV.enc w (ι key) 0 m dk os).heap[b]?=w.heap[b]?:=λb hb hn=>cD vV.enc w (ι key) 0 m dk os hb (hne b hn)
 have S1:vL (Mof M0 ι σ) (sortWorld vV.enc w (ι key) 0 m dk os) St0 ι:=⟨λb hb=>Ae (Mof.lt hS hb) hsz,(λk o hk=>by cases hk),(λk k' o o' hk=>by cases hk),(λk o hk=>by cases hk),hS.jK.zA hsz hblock λb _ hb=>hM b hb⟩
 have zA:∀ z:vV (Mof M0 ι σ) w C,RP (Mof (Mof M0 ι σ) ι St0) (sortWorld vV.enc w (ι key) 0 m dk os) z.enc z.dat:=λz=>z.2.1.zA hblock λb _ hb=>hM b hb
 refine((hcmp x.dat y.dat x.2.2.2 y.2.2.2).run _ _ ι (#[x.enc,y.enc] ++ #[]) S1 rfl λj hj=>?_).mono λe w' hh=>?_
 ·match j,hj with
  | 0,_=>exact .pure (zA x)
  | 1,_=>exact .pure (zA y)
 ·obtain⟨v,ι',rfl,k1,k2,k3,k4,k5,k6⟩:=hh;have K0:Kept (sortWorld vV.enc w (ι key) 0 m dk os) w' λ_=>False:=k1.mono λb _ ⟨k,o,hk,_⟩=>by cases hk
  refine⟨?_,Xx K0⟩;rw [k6.yF.1];rfl
set_option maxHeartbeats 1000000 in
theorem fz {P:Program} {ρ:Ren} (L:SlLaysF.n6 P ρ) (hord:uV P (ρ.f 6)) {g:FuncId} {C:D->Prop} {cf:D->D->Int}
  (hg:uV P g) (hcmp:∀ x y,C x->C y->zX P g [x,y] (.int .i64 (cf x y)))
  (hirr:∀ x,C x->¬ cf x x<0) (htr:∀ x y z,C x->C y->C z->cf x y<0->cf y z<0->cf x z<0) (hntr:∀ x y z,C x->C y->C z->¬ cf x y<0->¬ cf y z<0->¬ cf x z<0)
  {σ:St} {key:Nat} {els target:List (List D)} (hget:σ.get key=some ⟨1,els⟩) (hels:∀ e ∈ els,∃ d:D,e = [d]/\d.xL=true/\C d) (hlen:els.length<4611686018427387904) (hne:els ≠ [])
  (hT:∀ els',els'.Perm els->Zf cf els'->els'=target) :
  xY P (ρ.f 6) [.osl key 1 els.length,.fn g []] σ (.tup []) (σ.set key ⟨1,target⟩):=by
 refine⟨hord,λM0 w ι vals hS hl hv=>?_⟩;have h0:=hv 0 (by simp);have h1:=hv 1 (by simp);simp only [List.getD_cons_zero,List.getD_cons_succ] at h0 h1;obtain⟨cap,cur0,e0,e1,kk,a1,a2,a3,a4⟩:=h0.uI;obtain⟨cb,f1,f2,f3⟩:=h1.fO;have hcb:cb = #[]:=Array.eq_empty_of_size_eq_zero (by simpa using f2);subst hcb
 have hvals:vals = #[.slice (some ⟨ι key,0,none⟩) els.length cap,.func (.func g) #[] #[]]:=by
  obtain⟨l⟩:=vals
  match l,hl with
  | [x,y],_=> simp at e1 f1;rw [e1,f1]
 subst hvals;clear h0 h1 hv e1 f1 f2 f3 hl;have hk:=(hS.holds key _ hget).1;obtain⟨cur,e,c1,c2,c3,c4⟩:=yM.cells (hS.holds key _ hget).2 (Ac 0);simp only [Ad] at c3
 have cell:∀ i,i<els.length->∃ a:vV (Mof M0 ι σ) w C,a.enc=cur.getD i undef/\els.getD i [] = [a.dat]:=by
  intro i hi;have hm:els.getD i [] ∈ els:=by simp [List.getD,hi]
  obtain⟨d,hd,hp,hc⟩:=hels _ hm;have h:=c4 i hi 0 (Ac 0);simp only [Ad,Nat.add_zero] at h;rw [hd] at h;exact⟨⟨(cur.getD i undef,d),h.2.XJ hp,h.1,hc⟩,rfl,hd⟩
 have hpos:0<els.length:=ξ.2 hne;obtain⟨a0,_⟩:=cell 0 hpos
 haveI:Inhabited (vV (Mof M0 ι σ) w C):=⟨a0⟩
 obtain⟨d,hds,hdi⟩:=XX cell
 have hO:SWO (ltOf (vV.cf (M:=Mof M0 ι σ) (w:=w) (C:=C) cf)):=by
  exact⟨λx=>decide_eq_false (hirr x.dat x.2.2.2),λx y z h1 h2=>decide_eq_true (htr x.dat y.dat z.dat x.2.2.2 y.2.2.2 z.2.2.2 (of_decide_eq_true h1) (of_decide_eq_true h2)),
   λx y z h1 h2=>decide_eq_false (hntr x.dat y.dat z.dat x.2.2.2 y.2.2.2 z.2.2.2 (of_decide_eq_false h1) (of_decide_eq_false h2))⟩
 have hH:Holds vV.enc w (ι key) 0 d:=by
  intro j hj;have hj':j<els.length:=by omega
  have hjc:j<cur.size:=by omega
  refine⟨?_,?_⟩
  ·rw [(hdi j hj').1];simp [World.cell?,c1,Array.getD,hjc]
  ·simp [World.frozen?,c1]
 have hcall:=Any.slices_SortFunc L (vV.enc (M:=Mof M0 ι σ) (w:=w) (C:=C)) (λx=>x.2.2.1) (vV.cf cf) hO g #[] (ι key) 0 cap d w (λargs w=>rF hg args w) (ZK hcmp hS hget d.size) hH (Ag.1 c1).1 (by omega);rw [hds] at hcall;refine hcall.mono λe' w' hh=>?_;obtain⟨rfl,d',n,os,hp,hs,rfl⟩:=hh;rw [<- hds] at hp hs;have hsz:d'.size=d.size:=hp.1
 have e1:d.toList.map (λa=>[a.dat])= els:=by refine π (by simpa using hds) λi h1 h2=>?_;have:=(hdi i h2).2;rw [getElem!_pos d i (by omega)] at this;simp only [List.getElem_map,Array.getElem_toList];simp only [List.getD,List.getElem?_eq_getElem h2,Option.getD_some] at this;exact this.symm
 have hperm:(d'.toList.map λa=>[a.dat]).Perm els:=by
  rw [<- e1];have:=hp.2.2;rw [<- hsz] at this;conv at this=>lhs; rw [cJ d']
  rw [hsz,cJ d] at this;exact this.map _
 have hgd:∀ i,i<d'.size->hd ((d'.toList.map λa=>[a.dat]).getD i [])= (d'[i]!).dat:=by intro i hi;rw [getElem!_pos d' i hi];simp [hd,List.getD,hi]
 have hsort:Zf cf (d'.toList.map λa=>[a.dat]):=by
  intro i j hij hj;have hj':j<d'.size:=by simpa using hj
  rw [hgd j hj',hgd i (by omega)];have:=hs i j (Ab _) hij (by omega);exact of_decide_eq_false this
 have htarget:=hT _ hperm hsort;have htl:target.length=els.length:=by rw [<- htarget]; exact hperm.length_eq
 rw [pq _ _ _ _ _ _ _ c1];have hcs:(putCells vV.enc 0 d' cur).size=cur.size:=by simp [putCells]
 obtain⟨S2,K2⟩:=hS.set (ob':=⟨1,target⟩) hget c1 hcs (Ac 0) (by simp only [Ad]; omega) ⟨λel he=>by
   rw [<- htarget] at he;simp only [ζ] at he;obtain⟨a,_,rfl⟩:=he;rfl,λi hi j hj=>by
   have hj0:j=0:=by simp only at hj; omega
   subst hj0;simp only [Ad,Nat.add_zero];have hi':i<d'.size:=by simp only at hi; omega
   have hic:i<cur.size:=by omega
   have ev:(putCells vV.enc 0 d' cur).getD i undef=(d'[i]!).enc:=by simp [putCells,Array.getD,hic,hi']
   have ed:(target.getD i []).getD 0 .top=(d'[i]!).dat:=by rw [<- htarget]; exact hgd i hi'
   rw [ev,ed];exact⟨(d'[i]!).2.2.1,.pure (d'[i]!).2.1⟩⟩
 have K3:=WW (w:=w.setRow (ι key) (putCells vV.enc 0 d' cur)) n os;refine⟨.tuple #[],ι,rfl,K2.trans K3 (λ_ _ h=>h) (λ_ _ h=>h.elim),S2.ext K3,Aa _,λ_ _=>rfl,λk o hk=>?_,.tup rfl (λj hj=>by simp at hj)⟩
 by_cases ek:k=key
 ·subst ek; exact .inr ⟨k,_,hget,rfl⟩
 ·refine .inr ⟨k,o,?_,rfl⟩;rw [wC,if_neg (λe=>ek e.symm)] at hk;exact hk
end Go.Pd

/- Part SD. -/
set_option maxRecDepth 100000
namespace Go.Pd
open Go Go.Proofs Go.Shelf Go.Sort
open Ru
def fi : Go.Shelf.Ren where
 f:=λx=>match x with | 6=>171 | 15=>189 | 14=>212 | 28=>235 | 29=>236 | 20=>242 | 21=>243 | 22=>244 | 23=>245 | 24=>246 | 25=>247 | 26=>248 | 27=>249 | 46=>269 | 47=>258 | 48=>259 | 49=>270 | 50=>271 | 57=>276 | n=>n
 t:=λx=>match x with | 22=>63 | 24=>90 | 25=>211 | 39=>88 | 53=>248 | 55=>56 | 46=>242 | 45=>241 | 50=>129 | 66=>268 | 70=>272 | 76=>280 | 77=>281 | n=>n
 g:=λx=>x
theorem WZ : SlLaysF.n6 prog fi where
 mixed:=by kernel_rfl
 f6:=⟨ "slices.SortFunc[[][]int,[]int]",by decide,func171.trans (congrArg some (by kernel_rfl))⟩
 f14:=⟨ "slices.pdqsortCmpFunc[[]int]",by decide,func212.trans (congrArg some (by kernel_rfl))⟩
 f15:=func189.trans (congrArg some (by kernel_rfl))
 f20:=⟨ "slices.insertionSortCmpFunc[[]int]",by decide,func242.trans (congrArg some (by kernel_rfl))⟩
 f21:=⟨ "slices.heapSortCmpFunc[[]int]",by decide,func243.trans (congrArg some (by kernel_rfl))⟩
 f22:=⟨ "slices.breakPatternsCmpFunc[[]int]",by decide,func244.trans (congrArg some (by kernel_rfl))⟩
 f23:=⟨ "slices.choosePivotCmpFunc[[]int]",by decide,func245.trans (congrArg some (by kernel_rfl))⟩
 f24:=⟨ "slices.reverseRangeCmpFunc[[]int]",by decide,func246.trans (congrArg some (by kernel_rfl))⟩
 f25:=⟨ "slices.partialInsertionSortCmpFunc[[]int]",by decide,func247.trans (congrArg some (by kernel_rfl))⟩
 f26:=⟨ "slices.partitionEqualCmpFunc[[]int]",by decide,func248.trans (congrArg some (by kernel_rfl))⟩
 f27:=⟨ "slices.partitionCmpFunc[[]int]",by decide,func249.trans (congrArg some (by kernel_rfl))⟩
 f28:=func235.trans (congrArg some (by kernel_rfl))
 f29:=func236.trans (congrArg some (by kernel_rfl))
 f46:=⟨ "slices.siftDownCmpFunc[[]int]",by decide,func269.trans (congrArg some (by kernel_rfl))⟩
 f47:=func258.trans (congrArg some (by kernel_rfl))
 f48:=func259.trans (congrArg some (by kernel_rfl))
 f49:=⟨ "slices.medianAdjacentCmpFunc[[]int]",by decide,func270.trans (congrArg some (by kernel_rfl))⟩
 f50:=⟨ "slices.medianCmpFunc[[]int]",by decide,func271.trans (congrArg some (by kernel_rfl))⟩
 f57:=⟨ "slices.order2CmpFunc[[]int]",by decide,func276.trans (congrArg some (by kernel_rfl))⟩
 t0:=Tryz.underlying0
 a0:=Tryz.isAgg0
 z0:=Tryz.sizeOf0
 v0:=Tryz.zeroValue0
 t3:=Tryz.underlying3
 a3:=Tryz.isAgg3
 z3:=Tryz.sizeOf3
 v3:=Tryz.zeroValue3
 t4:=Tryz.underlying4
 a4:=Tryz.isAgg4
 z4:=Tryz.sizeOf4
 v4:=Tryz.zeroValue4
 t5:=Tryz.underlying5
 a5:=Tryz.isAgg5
 z5:=Tryz.sizeOf5
 v5:=Tryz.zeroValue5
 t9:=Tryz.underlying9
 a9:=Tryz.isAgg9
 z9:=Tryz.sizeOf9
 v9:=Tryz.zeroValue9
 t22:=Tryz.underlying63
 a22:=Tryz.isAgg63
 z22:=Tryz.sizeOf63
 v22:=Tryz.zeroValue63
 a24:=Tryz.isAgg90
 z24:=Tryz.sizeOf90
 t25:=Tryz.underlying211
 a25:=Tryz.isAgg211
 z25:=Tryz.sizeOf211
 v25:=Tryz.zeroValue211
 t39:=Tryz.underlying88
 a39:=Tryz.isAgg88
 z39:=Tryz.sizeOf88
 v39:=Tryz.zeroValue88
 t45:=Tryz.underlying241
 a45:=Tryz.isAgg241
 z45:=Tryz.sizeOf241
 v45:=Tryz.zeroValue241
 t46:=Tryz.underlying242
 a46:=Tryz.isAgg242
 z46:=Tryz.sizeOf242
 v46:=Tryz.zeroValue242
 t50:=Tryz.underlying129
 a50:=Tryz.isAgg129
 z50:=Tryz.sizeOf129
 v50:=Tryz.zeroValue129
 t53:=Tryz.underlying248
 a53:=Tryz.isAgg248
 z53:=Tryz.sizeOf248
 v53:=Tryz.zeroValue248
 t55:=Tryz.underlying56
 a55:=Tryz.isAgg56
 z55:=Tryz.sizeOf56
 v55:=Tryz.zeroValue56
 t66:=Tryz.underlying268
 a66:=Tryz.isAgg268
 z66:=Tryz.sizeOf268
 v66:=Tryz.zeroValue268
 t70:=Tryz.underlying272
 a70:=Tryz.isAgg272
 z70:=Tryz.sizeOf272
 v70:=Tryz.zeroValue272
 t76:=Tryz.underlying280
 a76:=Tryz.isAgg280
 z76:=Tryz.sizeOf280
 v76:=Tryz.zeroValue280
 t77:=Tryz.underlying281
 a77:=Tryz.isAgg281
 z77:=Tryz.sizeOf281
 v77:=Tryz.zeroValue281
def NY : D->Int
 | .int _ n=>n
 | _=>0
theorem Uh (l:List Int):(rows .i64 l).map (λe=>NY (hd e))= l:=by
 unfold rows;rw [η];conv=>rhs; rw [<- θ l]
 exact δ λx _=>rfl
theorem rZ {k:Nat} {o:Ob}:∀ {r:List (Nat × Ob)},St.look r k=some o->vN r k o=r
 | [],h=>by cases h
 | (j,o') :: r,h=>by
  rw [xX] at h;rw [rW]
  by_cases e:j=k
  ·rw [if_pos e] at h ⊢;injection h with h; rw [h]
  ·rw [if_neg e] at h ⊢;rw [rZ h]
def asc (l:List (List Int)):Prop:=l.Pairwise λa b=>¬ kc b a<0
def pI (l:List (List Int)):List (List Int):=l.mergeSort λa b=>decide (¬ kc b a<0)
theorem nX (l:List (List Int)):(pI l).Perm l:=List.mergeSort_perm l _
theorem jl (a b:List Int):¬ kc b a<0\/¬ kc a b<0:=by have:=oK a b; omega
theorem vm (l:List (List Int)):asc (pI l):=by have:=List.pairwise_mergeSort (le:=λa b:List Int=>decide (¬ kc b a<0)) (λa b c h1 h2=>by simp only [decide_eq_true_eq] at h1 h2 ⊢; exact oC h2 h1) (λa b=>by simp only [Bool.or_eq_true,decide_eq_true_eq]; exact jl a b) l;unfold asc pI;exact this.imp λh=>by simpa using h
theorem lu {a b:List Int} (h1:¬ kc b a<0) (h2:¬ kc a b<0):a=b:=zz (by have:=oK a b; omega)
theorem ko {l m:List (List Int)} (hp:m.Perm l) (hm:asc m):m=pI l:= List.Perm.eq_of_pairwise (le:=λa b=>¬ kc b a<0) (λx y _ _ h1 h2=>lu h1 h2) hm (vm l) (hp.trans (nX l).symm)
def bQ : D->List Int
 | .sl _ els=>els.map λe=>NY (hd e)
 | _=>[]
theorem kK (l:List Int):bQ (.sl 1 (rows .i64 l))= l:=Uh l
theorem RN {l:List (List Int)} {els:List (List D)} (h:els.Perm (rl l)):∃ m:List (List Int),els=rl m/\m.Perm l:=by
 refine⟨els.map λe=>bQ (hd e),?_,?_⟩
 ·unfold rl;rw [η];conv=>lhs; rw [<- θ els]
  refine δ λe he=>?_;have:=h.mem_iff.1 he;simp only [rl,ζ] at this;obtain⟨n,_,rfl⟩:=this;show [D.sl 1 (rows .i64 n)] = [D.sl 1 (rows .i64 (bQ (.sl 1 (rows .i64 n))))];rw [kK]
 ·have:=h.map λe=>bQ (hd e)
  have e:(rl l).map (λe=>bQ (hd e))= l:=by
   unfold rl;rw [η];conv=>rhs; rw [<- θ l]
   exact δ λx _=>kK x
  rw [e] at this;exact this
theorem P3 {l:List (List Int)} {i:Nat} (h:i<l.length):bQ (hd ((rl l).getD i []))= l.getD i []:=by rw [tH _ h]; exact kK _
theorem SR {o:List (List Int)} (h:∀ a b,a<b->b<o.length->¬ kc (o.getD b []) (o.getD a [])<0):asc o:=by unfold asc;rw [τ];intro i j hi hj hij;have:=h i j hij hj;simpa [List.getD,hi,hj] using this
theorem p3 {σ:St} {key:Nat} {l:List (List Int)} (hget:σ.get key=some ⟨1,rl l⟩) (hne:l ≠ []) (hlen:l.length<=1000) :
  xY prog 171 [.osl key 1 l.length,.fn 172 []] σ (.tup []) (σ.set key ⟨1,rl (pI l)⟩):=by
 have ho:uV prog 171:=⟨_,func171,by kernel_rfl,by kernel_rfl⟩;have ho2:uV prog 172:=⟨_,func172,by kernel_rfl,by kernel_rfl⟩
 have h:=fz (P:=prog) (ρ:=fi) WZ ho (g:=172) (C:=λd=>∃ l:List Int,d = .sl 1 (rows .i64 l)) (cf:=λx y=>kc (bQ x) (bQ y)) ho2
  (by rintro x y ⟨a,rfl⟩ ⟨b,rfl⟩; rw [kK,kK]; exact cX a b) (by intro x _; rw [lz]; omega) (by intro x y z _ _ _ h1 h2; exact gI h1 h2) (by intro x y z _ _ _ h1 h2; exact oC h1 h2)
  hget (target:=rl (pI l)) (by
   intro e he;have hp:=mq l e he;simp only [rl,ζ] at he;obtain⟨n,hn,rfl⟩:=he;exact⟨_,rfl,by simpa [D.xU] using hp,n,rfl⟩) (by rw [yD]; omega) (by intro c; apply hne; simpa [rl] using c) (by
   intro els' hp hs;obtain⟨m,rfl,hm⟩:=RN hp;rw [ko hm (SR λa b hab hb=>?_)];have:=hs a b hab (by rw [yD]; exact hb);change ¬ kc (bQ _) (bQ _)<0 at this;rw [P3 hb,P3 (show a<m.length by omega)] at this;exact this)
 rw [yD] at h;exact h
end Go.Pd

/- Part SE. -/
namespace Go.Pd
open Go Go.Proofs
open BitVec renaming isValue -> ZA
open Ru
def below (m:List (List Int)) (x:List Int):Nat:=(m.filter λy=>decide (kc y x<0)).length
theorem gF {x:List Int}:∀ {m:List (List Int)} {i:Nat},i<=m.length->(∀ a,a<i->kc (m.getD a []) x<0)->(∀ a,i<=a->a<m.length->¬ kc (m.getD a []) x<0)->below m x=i
 | [],i,h,_,_=>by simp at h; simp [below,h]
 | y :: m,0,_,_,h2=>by have h0:=h2 0 (Aa _) (by simp);have ih:=gF (x:=x) (m:=m) (i:=0) (Ab _) (λa ha=>by omega) (λa _ ha=>by simpa using h2 (a+1) (by omega) (by simp; omega));unfold below at ih ⊢;rw [ω,if_neg (by simpa using h0),ih]
 | y :: m,i+1,hi,h1,h2=>by have h0:=h1 0 (by omega);have ih:=gF (x:=x) (m:=m) (i:=i) (by simpa using hi) (λa ha=>by simpa using h1 (a+1) (by omega)) (λa ha hb=>by simpa using h2 (a+1) (by omega) (by simp; omega));unfold below at ih ⊢;rw [ω,if_pos (by simpa using h0),ο,ih]
theorem fw {n:Nat} (h:n<=1000000):Vg .u64 (n:Int) (ui 1#64)= ((n / 2:Nat):Int):=by unfold Vg;have e:min (ui 1#64).toNat IntKind.u64.bits=1:=rfl;rw [e];show ((n:Int)).fdiv 2=_;rw [Int.fdiv_eq_ediv_of_nonneg _ (by decide)];omega
theorem gu {m:List (List Int)} {x:List Int} (hm:asc m) {a b:Nat} (hab:a<=b) (hb:b<m.length) (h:kc (m.getD b []) x<0):kc (m.getD a []) x<0:=by
 by_cases e:a=b
 ·rw [e]; exact h
 ·have hp:=τ.1 hm a b (by omega) hb (by omega);have e1:m.getD a []=m[a]'(by omega):=by simp [List.getD,show a<m.length by omega]
  have e2:m.getD b []=m[b]:=by simp [List.getD,hb]
  rw [e1]; rw [e2] at h
  by_cases c:kc (m[a]'(by omega)) x<0
  ·exact c
  ·exact absurd h (oC hp c)
def vT (l:List (List Int)):Nat->List (List Int)
 | 0=>[]
 | k+1=>if 0<k/\l.getD k []=l.getD (k-1) [] then vT l k else vT l k ++ [l.getD k []]
def dedup (l:List (List Int)):List (List Int):=vT l l.length
theorem rS {l:List (List Int)}:∀ {k:Nat},k<=l.length->(∀ i,0<i->i<k->l.getD i []≠l.getD (i-1) [])->vT l k=l.take k
 | 0,_,_=>by simp [vT]
 | k+1,h,hn=>by rw [vT,if_neg (λc=>hn k c.1 (by omega) c.2),rS (by omega) (λi h1 h2=>hn i h1 (by omega)),<- zK (by omega)]
theorem ku (l:List (List Int)):∀ k,(vT l k).length<=k
 | 0=>Aa _
 | k+1=>by
  have:=ku l k;rw [vT]
  split
  ·omega
  ·rw [ε]; simp; omega
theorem WI (l:List (List Int)) (k:Nat):(vT l k).length<=(vT l (k+1)).length:=by
 rw [vT]; split
 ·exact Aa _
 ·rw [ε]; omega
theorem OQ (l:List (List Int)) (i:Nat) (x:List Int):(rl l).set i [.sl 1 (rows .i64 x)]=rl (l.set i x):=by simp [rl,List.map_set]
theorem jZ (o:List (List Int)) (i j:Nat) (x:List Int):(o.set i x).getD j []=if i=j/\j<o.length then x else o.getD j []:=by
 simp only [List.getD,List.getElem?_set]
 split
 ·rename_i h; subst h; by_cases hj:i<o.length
  ·simp [hj]
  ·simp [hj]
 ·rename_i h; simp [h]
theorem vu (l:List (List Int)):∀ k,0<(vT l (k+1)).length
 | 0=>by rw [vT,if_neg (by omega),ε]; simp
 | k+1=>Ae (vu l k) (WI l (k+1))
theorem tE {k:Nat} {o o':Ob}:∀ {r:List (Nat × Ob)},St.look r k=some o->St.look (vN r k o') k=some o'
 | [],h=>by cases h
 | (j,ob) :: r,h=>by
  rw [xX] at h;rw [rW]
  by_cases e:j=k
  ·rw [if_pos e,xX,if_pos e]
  ·rw [if_neg e] at h;rw [if_neg e,xX,if_neg e,tE h]
theorem rY (k:Nat) (a b:Ob):∀ r:List (Nat × Ob),vN (vN r k a) k b=vN r k b
 | []=>rfl
 | (j,ob) :: r=>by
  rw [rW,rW]
  by_cases e:j=k
  ·rw [if_pos e,if_pos e,rW,if_pos e]
  ·rw [if_neg e,if_neg e,rW,if_neg e,rY k a b r]
def ddE (l:List (List Int)):List (List D):=rl (dedup l)++ List.replicate (l.length-(dedup l).length) [.xK]
theorem WE {σ:St} {key:Nat} {l:List (List Int)} (hget:σ.get key=some ⟨1,rl l⟩) (hlen:l.length<=1000) (hne:l ≠ []) :
  xY prog 173 [.osl key 1 l.length,.fn 174 []] σ (.osl key 1 (dedup l).length) (σ.set key ⟨1,ddE l⟩):=by
 obtain⟨nx,xZ⟩:=σ;have hpos:0<l.length:=ξ.2 hne;have hg:St.look xZ key=some ⟨1,rl l⟩:=hget
 have whole:dedup l=l->(.osl key 1 (dedup l).length=D.osl key 1 l.length/\(⟨nx,vN xZ key ⟨1,ddE l⟩⟩:St)= ⟨nx,xZ⟩):=by
  intro e;refine⟨by rw [e],?_⟩;have:ddE l=rl l:=by unfold ddE; rw [e]; simp
  rw [this,rZ hg]
 refine xY.xP mixed func173 LX (by simp) λhf=>?_
 by_cases h2:l.length<2
 ·have hd:(l.length:Int)<2:=by omega
  simp only [simprocAttr,-ZA,↓zU,↓zD,zV,zT,zW,hd]
  have e:dedup l=l:=by unfold dedup;rw [rS (Aa _) (λi h1 h3=>by omega),κ]
  obtain⟨e1,e2⟩:=whole e;exact .inl ⟨e1,e2⟩
 have hd:¬ (l.length:Int)<2:=by omega
 simp only [simprocAttr,-ZA,↓zU,↓zD,zV,zT,zW,hd]
 refine xT (λk:Nat=>[(5,.int .i64 k),(1,.fn 174 []),(0,.osl key 1 l.length)]) (λ_=>⟨nx,xZ⟩) (λk=>1<=k/\k<=l.length/\∀ i,0<i->i<k->l.getD i []≠l.getD (i-1) []) (λk=>l.length-k) 1 ⟨Aa _,by omega,λi h1 h2=>by omega⟩ ?_ ?_
 ·(refine xN.same ?_; simp [xQ,Fr.get])
 intro i0 ⟨hi1,hi2,hi3⟩;refine xO mixed ?_;by_cases h:i0<l.length
 case neg=>
  have hd:¬ ((i0:Int)<(l.length:Int)):=by omega
  have e:dedup l=l:=by unfold dedup;rw [rS (Aa _) (λi h1 h3=>hi3 i h1 (by omega)),κ]
  obtain⟨e1,e2⟩:=whole e;simp only [simprocAttr,-ZA,↓zU,↓zD,zV,zT,zW,hd];exact .inl ⟨e1,e2⟩
 have hd:((i0:Int)<(l.length:Int)):=by omega
 have em:IntKind.i64.wrap ((i0:Int)-1)= ((i0-1:Nat):Int):=by rw [wrap_i64 (by omega)]; omega
 simp only [simprocAttr,-ZA,↓zU,↓zD,zV,zT,zW,hd,hg,tH l h,em,yD,tH l (show i0-1<l.length by omega)]
 (repeat refine sd ?_)
 refine .go (xY.yO (P4 (l.getD i0 []) (l.getD (i0-1) [])) (by simp [D.xU,D.xL])) ?_;by_cases hq:l.getD i0 []=l.getD (i0-1) []
 case neg=>
  simp only [simprocAttr,-ZA,↓zU,↓zD,zV,zT,zW,decide_eq_false hq]
  refine⟨i0+1,⟨by omega,by omega,λi h1 h3=>?_⟩,?_,by omega⟩
  ·by_cases e:i=i0
   ·rw [e]; exact hq
   ·exact hi3 i h1 (by omega)
  (refine xN.same ?_; simp only [xQ,Fr.get,simprocAttr,-ZA,zS])
  exact wrap_i64 (by omega)
 simp only [simprocAttr,-ZA,↓zU,↓zD,zV,zT,zW,decide_eq_true hq];have ei:¬ (i0:Int)= 0:=by omega
 have ei2:¬ (i0:Int)= (l.length:Int):=by omega
 refine⟨i0,l.length,rfl,rfl,by omega,by omega,by omega,?_⟩;simp only [Aj,if_neg ei,if_neg ei2];have d1:vT l (i0+1)= l.take i0:=by rw [vT,if_pos ⟨by omega,hq⟩,rS (by omega) hi3]
 refine xT (λa:Nat × List (List Int)=>[(7,.int .i64 a.1),(6,.sub key 1 i0 (l.length-i0)),(5,.int .i64 (vT l (i0+a.1)).length),(1,.fn 174 []),(0,.osl key 1 l.length)]) (λa=>⟨nx,vN xZ key ⟨1,rl a.2⟩⟩)
  (λa=>1<=a.1/\i0+a.1<=l.length/\a.2.length=l.length/\(vT l (i0+a.1)).length<i0+a.1/\a.2.take (vT l (i0+a.1)).length=vT l (i0+a.1)/\ ∀ j,i0+a.1-1<=j->a.2.getD j []=l.getD j []) (λa=>l.length-a.1) (1,l)
  ⟨Aa _,by omega,rfl,by rw [d1,μ]; omega,by rw [d1,μ,Nat.min_eq_left (by omega)],λj _=>rfl⟩ ?_ ?_
 ·rw [rZ hg]
  (refine xN.same ?_; simp [xQ,Fr.get,d1])
  omega
 intro ⟨q,o⟩ ⟨q1,q2,q3,q4,q5,q6⟩;simp only at q1 q2 q3 q4 q5 q6;have hlk:∀ ob:Ob,St.look (vN xZ key ob) key=some ob:=λob=>tE hg;refine xO mixed ?_
 by_cases hp:i0+q<l.length
 ·have hd3:((q:Int)<((l.length-i0:Nat):Int)):=by omega
  have eq1:IntKind.i64.wrap ((q:Int)-1)= ((q-1:Nat):Int):=by rw [wrap_i64 (by omega)]; omega
  simp only [simprocAttr,-ZA,↓zU,↓zD,zV,zT,zW,hd3,hlk,eq1,yD,tH o (show i0+q<o.length by omega),tH o (show i0+(q-1)<o.length by omega)]
  (repeat refine sd ?_)
  refine .go (xY.yO (P4 (o.getD (i0+q) []) (o.getD (i0+(q-1)) [])) (by simp [D.xU,D.xL])) ?_;have a1:o.getD (i0+q) []=l.getD (i0+q) []:=q6 _ (by omega);have a2:o.getD (i0+(q-1)) []=l.getD (i0+q-1) []:=by rw [q6 _ (by omega)]; congr 1; omega
  rw [a1,a2]
  by_cases hq2:l.getD (i0+q) []=l.getD (i0+q-1) []
  ·have dd:vT l (i0+(q+1))= vT l (i0+q):=by show vT l ((i0+q)+ 1)= _;rw [vT,if_pos ⟨by omega,hq2⟩]
   simp only [simprocAttr,-ZA,↓zU,↓zD,zV,zT,zW,decide_eq_true hq2];refine⟨(q+1,o),⟨by show 1<=q+1; omega,by show i0+(q+1)<=l.length; omega,q3,by show (vT l (i0+(q+1))).length<i0+(q+1); rw [dd]; omega,by show o.take (vT l (i0+(q+1))).length=vT l (i0+(q+1)); rw [dd,q5],λj hj=>q6 j (by change i0+(q+1)-1<=j at hj; omega)⟩,?_,by show l.length-(q+1)<l.length-q; omega⟩
   (refine xN.same ?_; simp only [xQ,Fr.get,simprocAttr,-ZA,zS,dd])
   exact wrap_i64 (by omega)
  ·have dd:vT l (i0+(q+1))= vT l (i0+q)++ [l.getD (i0+q) []]:=by show vT l ((i0+q)+ 1)= _;rw [vT,if_neg (λc=>hq2 c.2)]
   have dl:(vT l (i0+(q+1))).length=(vT l (i0+q)).length+1:=by rw [dd,ε]; rfl
   simp only [simprocAttr,-ZA,↓zU,↓zD,zV,zT,zW,decide_eq_false hq2,hlk,yD,tH o (show i0+q<o.length by omega),a1]
   (repeat refine sd ?_)
   have c1:(vT l (i0+q)).length<o.length:=by omega
   have eset:(rl o).set (vT l (i0+q)).length (((rl o).getD (vT l (i0+q)).length []).set 0 (D.sl 1 (rows .i64 (l.getD (i0+q) []))))= rl (o.set (vT l (i0+q)).length (l.getD (i0+q) [])):=by rw [tH o c1];exact OQ _ _ _
   refine⟨(q+1,o.set (vT l (i0+q)).length (l.getD (i0+q) [])),⟨by show 1<=q+1; omega,by show i0+(q+1)<=l.length; omega,by show (o.set _ _).length=_; rw [ν]; exact q3,by show (vT l (i0+(q+1))).length<i0+(q+1); omega,?_,λj hj=>?_⟩,?_,by show l.length-(q+1)<l.length-q; omega⟩
   ·show (o.set (vT l (i0+q)).length (l.getD (i0+q) [])).take (vT l (i0+(q+1))).length=_;rw [dl,zK (d:=[]) (by rw [ν]; exact c1),jZ,if_pos ⟨rfl,c1⟩,dd,υ (Aa _),q5]
   ·change i0+(q+1)-1<=j at hj;show (o.set (vT l (i0+q)).length (l.getD (i0+q) [])).getD j []=_;rw [jZ,if_neg (by omega)];exact q6 j (by omega)
   ·simp only [rY,eset]
    (refine xN.same ?_; simp only [xQ,Fr.get,simprocAttr,-ZA,zS,dl])
    exact⟨wrap_i64 (by omega),wrap_i64 (by omega)⟩
 ·have hd3:¬ ((q:Int)<((l.length-i0:Nat):Int)):=by omega
  have ed:vT l (i0+q)= dedup l:=by unfold dedup; rw [show i0+q=l.length by omega]
  have c0:0<(dedup l).length:=by have:=vu l (l.length-1);rw [show l.length-1+1=l.length by omega] at this;exact this
  rw [ed] at q4 q5;simp only [simprocAttr,-ZA,↓zU,↓zD,zV,zT,zW,hd3,ed];refine⟨(dedup l).length,l.length,rfl,rfl,by omega,by omega,by omega,?_⟩;rw [if_neg (show ¬ ((dedup l).length:Int)= 0 by omega),if_neg (show ¬ ((dedup l).length:Int)= (l.length:Int) by omega)];simp only [Aj,hlk,yD,true_and];refine⟨by omega,by omega,?_⟩;refine⟨0,(dedup l).length,rfl,rfl,by omega,by omega,by omega,?_⟩;rw [if_pos rfl];refine .inl ⟨by rw [Aj],?_⟩;have e2:(rl o).take (dedup l).length=rl (dedup l):=by rw [RO,q5]
  have e3:(rl o).drop ((dedup l).length+(l.length-(dedup l).length))= []:=γ (by rw [yD]; omega)
  have e4:ddE l=(rl o).take (dedup l).length++(List.replicate (l.length-(dedup l).length) [D.xK]++(rl o).drop ((dedup l).length+(l.length-(dedup l).length))):=by rw [e2,e3,List.append_nil]; rfl
  rw [e4];simp only [rY]
end Go.Pd

/- Part KF. -/
set_option maxRecDepth 100000
namespace Go.Pd
open Go Go.Proofs Go.Shelf Go.Sort
open BitVec renaming isValue -> ZA
open Ru
def rlu (ll:List (List Int)):List (List D):=ll.map λl=>[.sl 1 (rows .u64 l)]
theorem uU (l:List (List Int)):(rlu l).length=l.length:=by simp [rlu]
theorem pY (l:List (List Int)) {i:Nat} (h:i<l.length):(rlu l).getD i [] = [.sl 1 (rows .u64 (l.getD i []))]:=by simp [rlu,List.getD,h]
theorem Uf (l:List (List Int)) (n:Nat):(rlu l).take n=rlu (l.take n):=by simp [rlu,List.map_take]
theorem Ue (l:List (List Int)) (r:List Int):rlu l ++ [[.sl 1 (rows .u64 r)]]=rlu (l ++ [r]):=by simp [rlu]
theorem YD : rlu [] = []:=rfl
theorem zf (l:List (List Int)):∀ e ∈ rlu l,D.xU e=true:=by intro e he;simp only [rlu,ζ] at he;obtain⟨r,_,rfl⟩:=he;have h:∀ e ∈ rows .u64 r,D.xU e=true:=uX _ r;have:(rows .u64 r).all D.xU=true:=List.all_eq_true.2 h;simp [D.xU,D.xL,this]
theorem Wz (l:List (List Int)):tW (rlu l):=zf l
theorem Sg (a:Int):zX prog 256 [.int .u64 a] (.bool false):=by refine xY.xP mixed func256 ME (by simp) λhf=>?_;simp only [simprocAttr,-ZA,↓zU,↓zD,zV,zT,zW];exact .same
theorem Nv (a b:Int):zX prog 226 [.int .u64 a,.int .u64 b] (.int .i64 (if a<b then -1 else if b<a then 1 else 0)):=by
 refine xY.xP mixed func226 M7 (by simp) λhf=>?_;simp only [simprocAttr,-ZA,↓zU,↓zD,zV,zT,zW];refine .go (cq (Sg a)) ?_;simp only [simprocAttr,-ZA,↓zU,↓zD,zV,zT,zW];refine .go (cq (Sg b)) ?_
 by_cases h1:a<b
 ·simp only [simprocAttr,-ZA,↓zU,↓zD,zV,zT,zW,h1];exact .same
 ·by_cases h2:b<a
  ·simp only [simprocAttr,-ZA,↓zU,↓zD,zV,zT,zW,h1,h2];exact .same
  ·simp only [simprocAttr,-ZA,↓zU,↓zD,zV,zT,zW,h1,h2];exact .same
theorem O8 (a b:List Int):zX prog 186 [.sl 1 (rows .u64 a),.sl 1 (rows .u64 b)] (.int .i64 (pK a b)):=by
 refine xY.xP mixed func186 Lg (by simp) λhf=>?_;simp only [D.sT,D.fact,yZ] at hf;have hlen:=hf.1.1;simp only [simprocAttr,-ZA,↓zU,↓zD,zV,zT,zW]
 refine xT (λk:Nat=>[(11,.int .i64 k),(10,.int .i64 a.length),(9,.sl 1 (rows .u64 a)),(1,.sl 1 (rows .u64 b)),(0,.sl 1 (rows .u64 a))]) (λ_=>⟨0,[]⟩) (λk=>k<=a.length/\k<=b.length/\pK a b=pK (a.drop k) (b.drop k)) (λk=>a.length-k) 0 ⟨Ab _,Ab _,rfl⟩ ?_ ?_
 ·(refine xN.same ?_; simp [xQ,Fr.get])
 intro k ⟨hk,hk2,hi⟩;refine xO mixed ?_
 by_cases h:k<a.length
 ·have hd:((k:Int)<(a.length:Int)):=by omega
  have e1:a.drop k=a.getD k 0 :: a.drop (k+1):=by simp [List.getD,h]
  rw [e1] at hi
  by_cases h2:k<b.length
  ·have hd2:¬ ((b.length:Int)<=(k:Int)):=by omega
   have hd3:((k:Int)<(b.length:Int)):=by omega
   have e2:b.drop k=b.getD k 0 :: b.drop (k+1):=by simp [List.getD,h2]
   rw [e2,rf] at hi;simp only [simprocAttr,-ZA,↓zU,↓zD,zV,zT,zW,hd,yV .u64 a h,hd2,hd3,yV .u64 b h2]
   (repeat refine sd ?_)
   refine .go (xY.yO (Nv (a.getD k 0) (b.getD k 0)) rfl) ?_
   by_cases c1:a.getD k 0<b.getD k 0
   ·rw [if_pos c1] at hi ⊢;simp only [simprocAttr,-ZA,↓zU,↓zD,zV,zT,zW];rw [hi];exact .same
   ·by_cases c2:b.getD k 0<a.getD k 0
    ·rw [if_neg c1,if_pos c2] at hi ⊢;simp only [simprocAttr,-ZA,↓zU,↓zD,zV,zT,zW];rw [hi];exact .same
    ·rw [if_neg c1,if_neg c2] at hi ⊢;simp only [simprocAttr,-ZA,↓zU,↓zD,zV,zT,zW];refine⟨k+1,⟨by omega,by omega,hi⟩,?_,by omega⟩
     (refine xN.same ?_; simp only [xQ,Fr.get,simprocAttr,-ZA,zS])
     exact wrap_i64 (by omega)
  ·have hd2:((b.length:Int)<=(k:Int)):=by omega
   rw [γ (show b.length<=k by omega),aC] at hi;simp only [simprocAttr,-ZA,↓zU,↓zD,zV,zT,zW,hd,yV .u64 a h,hd2]
   (repeat refine sd ?_)
   rw [hi];exact .same
 ·have hd:¬ ((k:Int)<(a.length:Int)):=by omega
  rw [γ (show a.length<=k by omega),cg,χ] at hi
  by_cases c:a.length<b.length
  ·have c':(a.length:Int)<(b.length:Int):=by omega
   rw [if_neg (by omega)] at hi;simp only [simprocAttr,-ZA,↓zU,↓zD,zV,zT,zW,hd,c'];rw [hi];exact .same
  ·have c':¬ (a.length:Int)<(b.length:Int):=by omega
   rw [if_pos (by omega)] at hi;simp only [simprocAttr,-ZA,↓zU,↓zD,zV,zT,zW,hd,c'];rw [hi];exact .same
theorem bl (a b:List Int):zX prog 74 [.sl 1 (rows .u64 a),.sl 1 (rows .u64 b)] (.bool (decide (a=b))):=by
 refine xY.xP mixed func74 k74 (by simp) λhf=>?_;simp only [D.sT,D.fact,yZ] at hf;have hlen:=hf.1.1;by_cases h1:a.length=b.length
 case neg=>
  have h1':((a.length:Int) != (b.length:Int))= true:=by simp; omega
  simp only [simprocAttr,-ZA,↓zU,↓zD,zV,zT,zW,h1'];exact .drop (by simp) (by simp only [vw,D.bool.injEq]; symm; apply decide_eq_false; rintro rfl; exact h1 rfl)
 have h1':((a.length:Int) != (b.length:Int))= false:=by simp; omega
 simp only [simprocAttr,-ZA,↓zU,↓zD,zV,zT,zW,h1']
 refine xT (λk:Nat=>[(13,.int .i64 k),(12,.int .i64 a.length),(1,.sl 1 (rows .u64 b)),(0,.sl 1 (rows .u64 a))]) (λ_=>⟨0,[]⟩) (λk=>k<=a.length/\∀ i,i<k->a.getD i 0=b.getD i 0) (λk=>a.length-k) 0 ⟨Ab _,λi hi=>by omega⟩ ?_ ?_
 ·(refine xN.same ?_; simp [xQ,Fr.get])
 intro k ⟨hk,hi⟩;refine xO mixed ?_
 by_cases h:k<a.length
 ·have hd:((k:Int)<(a.length:Int)):=by omega
  by_cases hb:a.getD k 0=b.getD k 0
  ·have hb1:(a.getD k 0 != b.getD k 0)= false:=by simp only [hb,bne_self_eq_false]
   simp only [simprocAttr,-ZA,↓zU,↓zD,zV,zT,zW,hd,yV _ _ h,yV .u64 b (show k<b.length by omega),hb1]
   (repeat refine sd ?_)
   refine⟨k+1,⟨by omega,λi hi2=>?_⟩,?_,by omega⟩
   ·by_cases ei:i=k
    ·rw [ei,hb]
    ·exact hi i (by omega)
   (refine xN.same ?_; simp only [xQ,Fr.get,simprocAttr,-ZA,zS])
   exact wrap_i64 (by omega)
  ·have hb1:(a.getD k 0 != b.getD k 0)= true:=bne_iff_ne.2 hb;simp only [simprocAttr,-ZA,↓zU,↓zD,zV,zT,zW,hd,yV _ _ h,yV .u64 b (show k<b.length by omega),hb1]
   (repeat refine sd ?_)
   exact .drop (by simp) (by simp only [vw,D.bool.injEq]; symm; apply decide_eq_false; rintro rfl; exact hb rfl)
 ·have hd:¬ ((k:Int)<(a.length:Int)):=by omega
  have hk':k=a.length:=by omega
  subst hk';simp only [simprocAttr,-ZA,↓zU,↓zD,zV,zT,zW,hd];refine .drop (by simp) ?_;simp only [vw,D.bool.injEq]; symm; apply decide_eq_true;refine π h1 λi h2 h3=>?_;have:=hi i h2;simpa [List.getD,h2,h3] using this
theorem iJ (a b:List Int):zX prog 124 [.sl 1 (rows .u64 a),.sl 1 (rows .u64 b)] (.int .i64 (kc a b)):=by
 have h1:=Ro (a.length:Int) (b.length:Int);have h2:=O8 a b;have h3:=MX (if (a.length:Int)<(b.length:Int) then -1 else if (b.length:Int)<(a.length:Int) then 1 else 0) (pK a b)
 have e:(if (if (a.length:Int)<(b.length:Int) then(-1:Int) else if (b.length:Int)<(a.length:Int) then 1 else 0)≠ 0 then(if (a.length:Int)<(b.length:Int) then(-1:Int) else if (b.length:Int)<(a.length:Int) then 1 else 0) else pK a b)= kc a b:=by
  unfold kc
  by_cases c1:a.length<b.length
  ·rw [if_pos (show (a.length:Int)<b.length by omega),if_pos c1]; rfl
  ·rw [if_neg (show ¬ (a.length:Int)<b.length by omega),if_neg c1]
   by_cases c2:b.length<a.length
   ·rw [if_pos (show (b.length:Int)<a.length by omega),if_pos c2]; rfl
   ·rw [if_neg (show ¬ (b.length:Int)<a.length by omega),if_neg c2]; rfl
 rw [e] at h3;simp only [kB,nP] at h3;generalize (if (a.length:Int)<(b.length:Int) then(-1:Int) else if (b.length:Int)<(a.length:Int) then 1 else 0)= z at h1 h3;refine xY.xP mixed func124 Kt (by simp) λhf=>?_;simp only [simprocAttr,-ZA,↓zU,↓zD,zV,zT,zW];refine .go (cq h1) ?_;simp only [simprocAttr,-ZA,↓zU,↓zD,zV,zT,zW];refine .go (cr h2) ?_;simp only [simprocAttr,-ZA,↓zU,↓zD,zV,zT,zW];refine⟨by simp [D.xU,D.xL],?_⟩;refine .go (cr h3) ?_;simp only [simprocAttr,-ZA,↓zU,↓zD,zV,zT,zW];exact .same
theorem Se (a b:List Int):zX prog 129 [.sl 1 (rows .u64 a),.sl 1 (rows .u64 b)] (.bool (decide (a=b))):=by refine xY.xP mixed func129 Kv (by simp) λhf=>?_;simp only [simprocAttr,-ZA,↓zU,↓zD,zV,zT,zW];refine .go (cr (bl a b)) ?_;simp only [simprocAttr,-ZA,↓zU,↓zD,zV,zT,zW];exact .same
theorem ZB (l:List Int):(rows .u64 l).map (λe=>NY (hd e))= l:=by
 unfold rows;rw [η];conv=>rhs; rw [<- θ l]
 exact δ λx _=>rfl
def fj : Go.Shelf.Ren where
 f:=λx=>match x with | 6=>127 | 15=>189 | 14=>188 | 28=>235 | 29=>236 | 20=>227 | 21=>228 | 22=>229 | 23=>230 | 24=>231 | 25=>232 | 26=>233 | 27=>234 | 46=>257 | 47=>258 | 48=>259 | 49=>260 | 50=>261 | 57=>273 | n=>n
 t:=λx=>match x with | 22=>51 | 24=>22 | 25=>49 | 39=>88 | 53=>248 | 55=>56 | 46=>242 | 45=>241 | 50=>129 | 66=>268 | 70=>272 | 76=>280 | 77=>281 | n=>n
 g:=λx=>x
theorem WY : SlLaysF.n6 prog fj where
 mixed:=by kernel_rfl
 f6:=⟨ "slices.SortFunc[[][]uint64,[]uint64]",by decide,func127.trans (congrArg some (by kernel_rfl))⟩
 f14:=⟨ "slices.pdqsortCmpFunc[[]uint64]",by decide,func188.trans (congrArg some (by kernel_rfl))⟩
 f15:=func189.trans (congrArg some (by kernel_rfl))
 f20:=⟨ "slices.insertionSortCmpFunc[[]uint64]",by decide,func227.trans (congrArg some (by kernel_rfl))⟩
 f21:=⟨ "slices.heapSortCmpFunc[[]uint64]",by decide,func228.trans (congrArg some (by kernel_rfl))⟩
 f22:=⟨ "slices.breakPatternsCmpFunc[[]uint64]",by decide,func229.trans (congrArg some (by kernel_rfl))⟩
 f23:=⟨ "slices.choosePivotCmpFunc[[]uint64]",by decide,func230.trans (congrArg some (by kernel_rfl))⟩
 f24:=⟨ "slices.reverseRangeCmpFunc[[]uint64]",by decide,func231.trans (congrArg some (by kernel_rfl))⟩
 f25:=⟨ "slices.partialInsertionSortCmpFunc[[]uint64]",by decide,func232.trans (congrArg some (by kernel_rfl))⟩
 f26:=⟨ "slices.partitionEqualCmpFunc[[]uint64]",by decide,func233.trans (congrArg some (by kernel_rfl))⟩
 f27:=⟨ "slices.partitionCmpFunc[[]uint64]",by decide,func234.trans (congrArg some (by kernel_rfl))⟩
 f28:=func235.trans (congrArg some (by kernel_rfl))
 f29:=func236.trans (congrArg some (by kernel_rfl))
 f46:=⟨ "slices.siftDownCmpFunc[[]uint64]",by decide,func257.trans (congrArg some (by kernel_rfl))⟩
 f47:=func258.trans (congrArg some (by kernel_rfl))
 f48:=func259.trans (congrArg some (by kernel_rfl))
 f49:=⟨ "slices.medianAdjacentCmpFunc[[]uint64]",by decide,func260.trans (congrArg some (by kernel_rfl))⟩
 f50:=⟨ "slices.medianCmpFunc[[]uint64]",by decide,func261.trans (congrArg some (by kernel_rfl))⟩
 f57:=⟨ "slices.order2CmpFunc[[]uint64]",by decide,func273.trans (congrArg some (by kernel_rfl))⟩
 t0:=Tryz.underlying0
 a0:=Tryz.isAgg0
 z0:=Tryz.sizeOf0
 v0:=Tryz.zeroValue0
 t3:=Tryz.underlying3
 a3:=Tryz.isAgg3
 z3:=Tryz.sizeOf3
 v3:=Tryz.zeroValue3
 t4:=Tryz.underlying4
 a4:=Tryz.isAgg4
 z4:=Tryz.sizeOf4
 v4:=Tryz.zeroValue4
 t5:=Tryz.underlying5
 a5:=Tryz.isAgg5
 z5:=Tryz.sizeOf5
 v5:=Tryz.zeroValue5
 t9:=Tryz.underlying9
 a9:=Tryz.isAgg9
 z9:=Tryz.sizeOf9
 v9:=Tryz.zeroValue9
 t22:=Tryz.underlying51
 a22:=Tryz.isAgg51
 z22:=Tryz.sizeOf51
 v22:=Tryz.zeroValue51
 a24:=Tryz.isAgg22
 z24:=Tryz.sizeOf22
 t25:=Tryz.underlying49
 a25:=Tryz.isAgg49
 z25:=Tryz.sizeOf49
 v25:=Tryz.zeroValue49
 t39:=Tryz.underlying88
 a39:=Tryz.isAgg88
 z39:=Tryz.sizeOf88
 v39:=Tryz.zeroValue88
 t45:=Tryz.underlying241
 a45:=Tryz.isAgg241
 z45:=Tryz.sizeOf241
 v45:=Tryz.zeroValue241
 t46:=Tryz.underlying242
 a46:=Tryz.isAgg242
 z46:=Tryz.sizeOf242
 v46:=Tryz.zeroValue242
 t50:=Tryz.underlying129
 a50:=Tryz.isAgg129
 z50:=Tryz.sizeOf129
 v50:=Tryz.zeroValue129
 t53:=Tryz.underlying248
 a53:=Tryz.isAgg248
 z53:=Tryz.sizeOf248
 v53:=Tryz.zeroValue248
 t55:=Tryz.underlying56
 a55:=Tryz.isAgg56
 z55:=Tryz.sizeOf56
 v55:=Tryz.zeroValue56
 t66:=Tryz.underlying268
 a66:=Tryz.isAgg268
 z66:=Tryz.sizeOf268
 v66:=Tryz.zeroValue268
 t70:=Tryz.underlying272
 a70:=Tryz.isAgg272
 z70:=Tryz.sizeOf272
 v70:=Tryz.zeroValue272
 t76:=Tryz.underlying280
 a76:=Tryz.isAgg280
 z76:=Tryz.sizeOf280
 v76:=Tryz.zeroValue280
 t77:=Tryz.underlying281
 a77:=Tryz.isAgg281
 z77:=Tryz.sizeOf281
 v77:=Tryz.zeroValue281
def mL : D->List Int
 | .sl _ els=>els.map λe=>NY (hd e)
 | _=>[]
theorem oD (l:List Int):mL (.sl 1 (rows .u64 l))= l:=ZB l
theorem Ud {l:List (List Int)} {els:List (List D)} (h:els.Perm (rlu l)):∃ m:List (List Int),els=rlu m/\m.Perm l:=by
 refine⟨els.map λe=>mL (hd e),?_,?_⟩
 ·unfold rlu;rw [η];conv=>lhs; rw [<- θ els]
  refine δ λe he=>?_;have:=h.mem_iff.1 he;simp only [rlu,ζ] at this;obtain⟨n,_,rfl⟩:=this;show [D.sl 1 (rows .u64 n)] = [D.sl 1 (rows .u64 (mL (.sl 1 (rows .u64 n))))];rw [oD]
 ·have:=h.map λe=>mL (hd e)
  have e:(rlu l).map (λe=>mL (hd e))= l:=by
   unfold rlu;rw [η];conv=>rhs; rw [<- θ l]
   exact δ λx _=>oD x
  rw [e] at this;exact this
theorem Sb {l:List (List Int)} {i:Nat} (h:i<l.length):mL (hd ((rlu l).getD i []))= l.getD i []:=by rw [pY _ h]; exact oD _
theorem ju {σ:St} {key:Nat} {l:List (List Int)} (hget:σ.get key=some ⟨1,rlu l⟩) (hne:l ≠ []) (hlen:l.length<=1000) :
  xY prog 127 [.osl key 1 l.length,.fn 124 []] σ (.tup []) (σ.set key ⟨1,rlu (pI l)⟩):=by
 have ho:uV prog 127:=⟨_,func127,by kernel_rfl,by kernel_rfl⟩;have ho2:uV prog 124:=⟨_,func124,by kernel_rfl,by kernel_rfl⟩
 have h:=fz (P:=prog) (ρ:=fj) WY ho (g:=124) (C:=λd=>∃ l:List Int,d = .sl 1 (rows .u64 l)) (cf:=λx y=>kc (mL x) (mL y)) ho2
  (by rintro x y ⟨a,rfl⟩ ⟨b,rfl⟩; rw [oD,oD]; exact iJ a b) (by intro x _; rw [lz]; omega) (by intro x y z _ _ _ h1 h2; exact gI h1 h2) (by intro x y z _ _ _ h1 h2; exact oC h1 h2)
  hget (target:=rlu (pI l)) (by
   intro e he;have hp:=zf l e he;simp only [rlu,ζ] at he;obtain⟨n,hn,rfl⟩:=he;exact⟨_,rfl,by simpa [D.xU] using hp,n,rfl⟩) (by rw [uU]; omega) (by intro c; apply hne; simpa [rlu] using c) (by
   intro els' hp hs;obtain⟨m,rfl,hm⟩:=Ud hp;rw [ko hm (SR λa b hab hb=>?_)];have:=hs a b hab (by rw [uU]; exact hb);change ¬ kc (mL _) (mL _)<0 at this;rw [Sb hb,Sb (show a<m.length by omega)] at this;exact this)
 rw [uU] at h;exact h
theorem ZF {m:List (List Int)} (x:List Int) (hm:asc m) (hl:m.length<=1000):∃ b:Bool,zX prog 123 [.sl 1 (rlu m),.sl 1 (rows .u64 x),.fn 124 []] (.tup [.int .i64 (below m x),.bool b]):=by
 refine⟨decide (below m x<m.length)&& decide (kc (m.getD (below m x) []) x=0),?_⟩;refine xY.xP mixed func123 Ks (by simp) λhf=>?_;simp only [simprocAttr,-ZA,↓zU,↓zD,zV,zT,zW,uU]
 refine xT (λa:Nat × Nat=>[(10,.int .i64 a.2),(9,.int .i64 a.1),(8,.int .i64 m.length),(2,.fn 124 []),(1,.sl 1 (rows .u64 x)),(0,.sl 1 (rlu m))]) (λ_=>⟨0,[]⟩) (λa=>a.1<=a.2/\a.2<=m.length/\(∀ i,i<a.1->kc (m.getD i []) x<0)/\ (∀ i,a.2<=i->i<m.length->¬ kc (m.getD i []) x<0)) (λa=>a.2-a.1) (0,m.length) ⟨Ab _,Aa _,λi hi=>by omega,λi h1 h2=>by omega⟩ ?_ ?_
 ·(refine xN.same ?_; simp [xQ,Fr.get])
 intro ⟨lo,hi⟩ ⟨h1,h2,h3,h4⟩;simp only at h1 h2 h3 h4;refine xO mixed ?_
 by_cases h:lo<hi
 ·have hd:((lo:Int)<(hi:Int)):=by omega
  have es:IntKind.i64.wrap ((lo:Int)+ (hi:Int))= ((lo+hi:Nat):Int):=by rw [wrap_i64 (by omega)]; omega
  have ew:IntKind.i64.wrap (((lo+hi)/ 2:Nat):Int)= (((lo+hi)/ 2:Nat):Int):=wrap_i64 (by omega);have hmid:(lo+hi)/ 2<m.length:=by omega
  simp only [simprocAttr,-ZA,↓zU,↓zD,zV,zT,zW,hd,es,VU (show lo+hi<=1000000 by omega),fw (show lo+hi<=1000000 by omega),ew,uU,pY m hmid]
  (repeat refine sd ?_)
  refine .go (xY.yO (iJ (m.getD ((lo+hi)/ 2) []) x) (by simp [D.xU,D.xL])) ?_
  by_cases c:kc (m.getD ((lo+hi)/ 2) []) x<0
  ·simp only [simprocAttr,-ZA,↓zU,↓zD,zV,zT,zW,c];refine⟨((lo+hi)/ 2+1,hi),⟨by show (lo+hi)/ 2+1<=hi; omega,h2,λi hi2=>gu hm (show i<=(lo+hi)/ 2 by change i<(lo+hi)/ 2+1 at hi2; omega) hmid c,h4⟩,?_,by show hi-((lo+hi)/ 2+1)<hi-lo; omega⟩
   (refine xN.same ?_; simp only [xQ,Fr.get,simprocAttr,-ZA,zS])
   exact wrap_i64 (by omega)
  ·simp only [simprocAttr,-ZA,↓zU,↓zD,zV,zT,zW,c];refine⟨(lo,(lo+hi)/ 2),⟨by show lo<=(lo+hi)/ 2; omega,by show (lo+hi)/ 2<=m.length; omega,h3,λi hi2 hi3 hc=>c (gu hm hi2 hi3 hc)⟩,?_,by show (lo+hi)/ 2-lo<hi-lo; omega⟩
   (refine xN.same ?_; simp only [xQ,Fr.get,simprocAttr,-ZA,zS])
 ·have hd:¬ ((lo:Int)<(hi:Int)):=by omega
  have e:below m x=lo:=gF (by omega) h3 λa ha hb=>h4 a (by omega) hb;rw [e]
  by_cases hlen:lo<m.length
  ·have hd2:((lo:Int)<(m.length:Int)):=by omega
   simp only [simprocAttr,-ZA,↓zU,↓zD,zV,zT,zW,hd,hd2,uU,pY m hlen]
   (repeat refine sd ?_)
   refine .go (xY.yO (iJ (m.getD lo []) x) (by simp [D.xU,D.xL])) ?_;simp only [simprocAttr,-ZA,↓zU,↓zD,zV,zT,zW];exact .drop (by simp) (by simp only [vw,vwL,and_true,D.bool.injEq,true_and,ο,List.length_nil,decide_eq_true hlen,Bool.true_and]; rfl)
  ·have hd2:¬ ((lo:Int)<(m.length:Int)):=by omega
   simp only [simprocAttr,-ZA,↓zU,↓zD,zV,zT,zW,hd,hd2];exact .drop (by simp) (by simp only [vw,vwL,and_true,D.bool.injEq,true_and,ο,List.length_nil,decide_eq_false hlen,Bool.false_and])
theorem RT (l:List (List Int)) (i:Nat) (x:List Int):(rlu l).set i [.sl 1 (rows .u64 x)]=rlu (l.set i x):=by simp [rlu,List.map_set]
def S8 (l:List (List Int)):List (List D):=rlu (dedup l)++ List.replicate (l.length-(dedup l).length) [.xK]
theorem Xl {σ:St} {key:Nat} {l:List (List Int)} (hget:σ.get key=some ⟨1,rlu l⟩) (hlen:l.length<=1000) (hne:l ≠ []) :
  xY prog 128 [.osl key 1 l.length,.fn 129 []] σ (.osl key 1 (dedup l).length) (σ.set key ⟨1,S8 l⟩):=by
 obtain⟨nx,xZ⟩:=σ;have hpos:0<l.length:=ξ.2 hne;have hg:St.look xZ key=some ⟨1,rlu l⟩:=hget
 have whole:dedup l=l->(.osl key 1 (dedup l).length=D.osl key 1 l.length/\(⟨nx,vN xZ key ⟨1,S8 l⟩⟩:St)= ⟨nx,xZ⟩):=by
  intro e;refine⟨by rw [e],?_⟩;have:S8 l=rlu l:=by unfold S8; rw [e]; simp
  rw [this,rZ hg]
 refine xY.xP mixed func128 Ku (by simp) λhf=>?_
 by_cases h2:l.length<2
 ·have hd:(l.length:Int)<2:=by omega
  simp only [simprocAttr,-ZA,↓zU,↓zD,zV,zT,zW,hd]
  have e:dedup l=l:=by unfold dedup;rw [rS (Aa _) (λi h1 h3=>by omega),κ]
  obtain⟨e1,e2⟩:=whole e;exact .inl ⟨e1,e2⟩
 have hd:¬ (l.length:Int)<2:=by omega
 simp only [simprocAttr,-ZA,↓zU,↓zD,zV,zT,zW,hd]
 refine xT (λk:Nat=>[(5,.int .i64 k),(1,.fn 129 []),(0,.osl key 1 l.length)]) (λ_=>⟨nx,xZ⟩) (λk=>1<=k/\k<=l.length/\∀ i,0<i->i<k->l.getD i []≠l.getD (i-1) []) (λk=>l.length-k) 1 ⟨Aa _,by omega,λi h1 h2=>by omega⟩ ?_ ?_
 ·(refine xN.same ?_; simp [xQ,Fr.get])
 intro i0 ⟨hi1,hi2,hi3⟩;refine xO mixed ?_;by_cases h:i0<l.length
 case neg=>
  have hd:¬ ((i0:Int)<(l.length:Int)):=by omega
  have e:dedup l=l:=by unfold dedup;rw [rS (Aa _) (λi h1 h3=>hi3 i h1 (by omega)),κ]
  obtain⟨e1,e2⟩:=whole e;simp only [simprocAttr,-ZA,↓zU,↓zD,zV,zT,zW,hd];exact .inl ⟨e1,e2⟩
 have hd:((i0:Int)<(l.length:Int)):=by omega
 have em:IntKind.i64.wrap ((i0:Int)-1)= ((i0-1:Nat):Int):=by rw [wrap_i64 (by omega)]; omega
 simp only [simprocAttr,-ZA,↓zU,↓zD,zV,zT,zW,hd,hg,pY l h,em,uU,pY l (show i0-1<l.length by omega)]
 (repeat refine sd ?_)
 refine .go (xY.yO (Se (l.getD i0 []) (l.getD (i0-1) [])) (by simp [D.xU,D.xL])) ?_;by_cases hq:l.getD i0 []=l.getD (i0-1) []
 case neg=>
  simp only [simprocAttr,-ZA,↓zU,↓zD,zV,zT,zW,decide_eq_false hq]
  refine⟨i0+1,⟨by omega,by omega,λi h1 h3=>?_⟩,?_,by omega⟩
  ·by_cases e:i=i0
   ·rw [e]; exact hq
   ·exact hi3 i h1 (by omega)
  (refine xN.same ?_; simp only [xQ,Fr.get,simprocAttr,-ZA,zS])
  exact wrap_i64 (by omega)
 simp only [simprocAttr,-ZA,↓zU,↓zD,zV,zT,zW,decide_eq_true hq];have ei:¬ (i0:Int)= 0:=by omega
 have ei2:¬ (i0:Int)= (l.length:Int):=by omega
 refine⟨i0,l.length,rfl,rfl,by omega,by omega,by omega,?_⟩;simp only [Aj,if_neg ei,if_neg ei2];have d1:vT l (i0+1)= l.take i0:=by rw [vT,if_pos ⟨by omega,hq⟩,rS (by omega) hi3]
 refine xT (λa:Nat × List (List Int)=>[(7,.int .i64 a.1),(6,.sub key 1 i0 (l.length-i0)),(5,.int .i64 (vT l (i0+a.1)).length),(1,.fn 129 []),(0,.osl key 1 l.length)]) (λa=>⟨nx,vN xZ key ⟨1,rlu a.2⟩⟩)
  (λa=>1<=a.1/\i0+a.1<=l.length/\a.2.length=l.length/\(vT l (i0+a.1)).length<i0+a.1/\a.2.take (vT l (i0+a.1)).length=vT l (i0+a.1)/\ ∀ j,i0+a.1-1<=j->a.2.getD j []=l.getD j []) (λa=>l.length-a.1) (1,l)
  ⟨Aa _,by omega,rfl,by rw [d1,μ]; omega,by rw [d1,μ,Nat.min_eq_left (by omega)],λj _=>rfl⟩ ?_ ?_
 ·rw [rZ hg]
  (refine xN.same ?_; simp [xQ,Fr.get,d1])
  omega
 intro ⟨q,o⟩ ⟨q1,q2,q3,q4,q5,q6⟩;simp only at q1 q2 q3 q4 q5 q6;have hlk:∀ ob:Ob,St.look (vN xZ key ob) key=some ob:=λob=>tE hg;refine xO mixed ?_
 by_cases hp:i0+q<l.length
 ·have hd3:((q:Int)<((l.length-i0:Nat):Int)):=by omega
  have eq1:IntKind.i64.wrap ((q:Int)-1)= ((q-1:Nat):Int):=by rw [wrap_i64 (by omega)]; omega
  simp only [simprocAttr,-ZA,↓zU,↓zD,zV,zT,zW,hd3,hlk,eq1,uU,pY o (show i0+q<o.length by omega),pY o (show i0+(q-1)<o.length by omega)]
  (repeat refine sd ?_)
  refine .go (xY.yO (Se (o.getD (i0+q) []) (o.getD (i0+(q-1)) [])) (by simp [D.xU,D.xL])) ?_;have a1:o.getD (i0+q) []=l.getD (i0+q) []:=q6 _ (by omega);have a2:o.getD (i0+(q-1)) []=l.getD (i0+q-1) []:=by rw [q6 _ (by omega)]; congr 1; omega
  rw [a1,a2]
  by_cases hq2:l.getD (i0+q) []=l.getD (i0+q-1) []
  ·have dd:vT l (i0+(q+1))= vT l (i0+q):=by show vT l ((i0+q)+ 1)= _;rw [vT,if_pos ⟨by omega,hq2⟩]
   simp only [simprocAttr,-ZA,↓zU,↓zD,zV,zT,zW,decide_eq_true hq2];refine⟨(q+1,o),⟨by show 1<=q+1; omega,by show i0+(q+1)<=l.length; omega,q3,by show (vT l (i0+(q+1))).length<i0+(q+1); rw [dd]; omega,by show o.take (vT l (i0+(q+1))).length=vT l (i0+(q+1)); rw [dd,q5],λj hj=>q6 j (by change i0+(q+1)-1<=j at hj; omega)⟩,?_,by show l.length-(q+1)<l.length-q; omega⟩
   (refine xN.same ?_; simp only [xQ,Fr.get,simprocAttr,-ZA,zS,dd])
   exact wrap_i64 (by omega)
  ·have dd:vT l (i0+(q+1))= vT l (i0+q)++ [l.getD (i0+q) []]:=by show vT l ((i0+q)+ 1)= _;rw [vT,if_neg (λc=>hq2 c.2)]
   have dl:(vT l (i0+(q+1))).length=(vT l (i0+q)).length+1:=by rw [dd,ε]; rfl
   simp only [simprocAttr,-ZA,↓zU,↓zD,zV,zT,zW,decide_eq_false hq2,hlk,uU,pY o (show i0+q<o.length by omega),a1]
   (repeat refine sd ?_)
   have c1:(vT l (i0+q)).length<o.length:=by omega
   have eset:(rlu o).set (vT l (i0+q)).length (((rlu o).getD (vT l (i0+q)).length []).set 0 (D.sl 1 (rows .u64 (l.getD (i0+q) []))))= rlu (o.set (vT l (i0+q)).length (l.getD (i0+q) [])):=by rw [pY o c1];exact RT _ _ _
   refine⟨(q+1,o.set (vT l (i0+q)).length (l.getD (i0+q) [])),⟨by show 1<=q+1; omega,by show i0+(q+1)<=l.length; omega,by show (o.set _ _).length=_; rw [ν]; exact q3,by show (vT l (i0+(q+1))).length<i0+(q+1); omega,?_,λj hj=>?_⟩,?_,by show l.length-(q+1)<l.length-q; omega⟩
   ·show (o.set (vT l (i0+q)).length (l.getD (i0+q) [])).take (vT l (i0+(q+1))).length=_;rw [dl,zK (d:=[]) (by rw [ν]; exact c1),jZ,if_pos ⟨rfl,c1⟩,dd,υ (Aa _),q5]
   ·change i0+(q+1)-1<=j at hj;show (o.set (vT l (i0+q)).length (l.getD (i0+q) [])).getD j []=_;rw [jZ,if_neg (by omega)];exact q6 j (by omega)
   ·simp only [rY,eset]
    (refine xN.same ?_; simp only [xQ,Fr.get,simprocAttr,-ZA,zS,dl])
    exact⟨wrap_i64 (by omega),wrap_i64 (by omega)⟩
 ·have hd3:¬ ((q:Int)<((l.length-i0:Nat):Int)):=by omega
  have ed:vT l (i0+q)= dedup l:=by unfold dedup; rw [show i0+q=l.length by omega]
  have c0:0<(dedup l).length:=by have:=vu l (l.length-1);rw [show l.length-1+1=l.length by omega] at this;exact this
  rw [ed] at q4 q5;simp only [simprocAttr,-ZA,↓zU,↓zD,zV,zT,zW,hd3,ed];refine⟨(dedup l).length,l.length,rfl,rfl,by omega,by omega,by omega,?_⟩;rw [if_neg (show ¬ ((dedup l).length:Int)= 0 by omega),if_neg (show ¬ ((dedup l).length:Int)= (l.length:Int) by omega)];simp only [Aj,hlk,uU,true_and];refine⟨by omega,by omega,?_⟩;refine⟨0,(dedup l).length,rfl,rfl,by omega,by omega,by omega,?_⟩;rw [if_pos rfl];refine .inl ⟨by rw [Aj],?_⟩;have e2:(rlu o).take (dedup l).length=rlu (dedup l):=by rw [Uf,q5]
  have e3:(rlu o).drop ((dedup l).length+(l.length-(dedup l).length))= []:=γ (by rw [uU]; omega)
  have e4:S8 l=(rlu o).take (dedup l).length++(List.replicate (l.length-(dedup l).length) [D.xK]++(rlu o).drop ((dedup l).length+(l.length-(dedup l).length))):=by rw [e2,e3,List.append_nil]; rfl
  rw [e4];simp only [rY]
theorem yq (l:List (BitVec 64)):us l=rows .u64 (l.map ui):=by simp [us,rows]
end Go.Pd
