/- Part SC. -/
import Derived.Test.YtndfaefmmcoapaaGreatUcS1
import Derived.Test.YtndfaefmmcoapaaGreatUcX6
import Derived.Shelf.SlSortCmp.NoneTotal
set_option linter.unusedSectionVars false
set_option linter.unusedVariables false
set_option linter.unusedSimpArgs false
set_option linter.defProp false
set_option maxRecDepth 20000
set_option maxHeartbeats 1000000
open Go.Proofs.Tryz
open List renaming drop_eq_nil_of_le->γ,map_congr_left->δ,length_append->ε,mem_map->ζ,map_map->η,map_id->θ,take_length->κ,length_take->μ,length_set->ν,length_pos_iff->ξ,length_cons->ο,ext_getElem->π,pairwise_iff_getElem->τ,take_set_of_le->υ,length_drop->χ,filter_cons->ω
open Nat renaming le_refl->Aa,zero_le->Ab,lt_succ_self->Ac,mul_one->Ad,lt_of_lt_of_le->Ae
open Array renaming getElem?_append_left->Af,getElem?_eq_some_iff->Ag,getElem?_modify->Ah,ext_getElem?->Ai
open Int renaming toNat_natCast->Aj
namespace Go.Pd
open Go Go.Proofs
open BitVec renaming isValue -> ZA
open Ru
namespace Ru
def tN : List Int->List Int->Int
 | [],[]=>0
 | [],_ :: _=>-1
 | _ :: _,[]=>1
 | x :: a,y :: b=>if x<y then -1 else if y<x then 1 else tN a b
theorem iq : ∀ a:List Int,tN a a=0
 | []=>rfl
 | x :: a=>by unfold tN; rw [if_neg (by omega),if_neg (by omega)]; exact iq a
theorem pf : ∀ a b:List Int,tN a b = -1\/tN a b=0\/tN a b=1
 | [],[]=>.inr (.inl rfl)
 | [],_ :: _=>.inl rfl
 | _ :: _,[]=>.inr (.inr rfl)
 | x :: a,y :: b=>by
  unfold tN
  split
  ·exact .inl rfl
  ·split
   ·exact .inr (.inr rfl)
   ·exact pf a b
theorem ir : ∀ {a b:List Int},tN a b=0->a=b
 | [],[],_=>rfl
 | [],_ :: _,h=>by simp [tN] at h
 | _ :: _,[],h=>by simp [tN] at h
 | x :: a,y :: b,h=>by
  unfold tN at h
  split at h
  ·omega
  ·split at h
   ·omega
   ·rw [ir h,show x=y by omega]
theorem il : ∀ a b:List Int,tN b a =-tN a b
 | [],[]=>rfl
 | [],_ :: _=>rfl
 | _ :: _,[]=>rfl
 | x :: a,y :: b=>by
  unfold tN
  by_cases h1:x<y
  ·rw [if_pos h1,if_neg (by omega),if_pos h1]; rfl
  ·by_cases h2:y<x
   ·rw [if_pos h2,if_neg h1,if_pos h2]
   ·rw [if_neg h2,if_neg h1,if_neg h1,if_neg h2]; exact il a b
theorem ph : ∀ {a b c:List Int},tN a b<0->tN b c<0->tN a c<0
 | [],[],_,h,_=>by simp [tN] at h
 | [],_ :: _,[],_,h=>by simp [tN] at h
 | [],_ :: _,_ :: _,_,_=>by simp [tN]
 | _ :: _,[],_,h,_=>by simp [tN] at h
 | _ :: _,_ :: _,[],_,h=>by simp [tN] at h
 | x :: a,y :: b,z :: c,h1,h2=>by
  unfold tN at h1 h2 ⊢
  by_cases hxy:x<y
  ·by_cases hyz:z<y
   ·rw [if_neg (by omega),if_pos hyz] at h2; omega
   ·rw [if_pos (by omega)]; omega
  ·rw [if_neg hxy] at h1
   by_cases hyx:y<x
   ·rw [if_pos hyx] at h1; omega
   ·rw [if_neg hyx] at h1
    by_cases hyz:y<z
    ·rw [if_pos (by omega)]; omega
    ·rw [if_neg hyz] at h2
     by_cases hzy:z<y
     ·rw [if_pos hzy] at h2; omega
     ·rw [if_neg hzy] at h2;rw [if_neg (by omega),if_neg (by omega)];exact ph h1 h2
theorem Xc (b:List Int):tN [] b=if b.length=0 then 0 else -1:=by cases b <;> rfl
def kc (a b:List Int):Int:=if a.length<b.length then -1 else if b.length<a.length then 1 else tN a b
theorem bl (a:List Int):kc a a=0:=by unfold kc; rw [if_neg (by omega),if_neg (by omega)]; exact iq a
theorem Xb (a b:List Int):kc a b = -1\/kc a b=0\/kc a b=1:=by
 have:=pf a b
 unfold kc; split
 ·exact .inl rfl
 ·split
  ·exact .inr (.inr rfl)
  ·exact this
theorem vn {a b:List Int} (h:kc a b=0):a=b:=by
 unfold kc at h
 split at h
 ·omega
 ·split at h
  ·omega
  ·exact ir h
theorem lO (a b:List Int):kc b a =-kc a b:=by
 have:=il a b;unfold kc
 by_cases h1:a.length<b.length
 ·rw [if_neg (by omega),if_pos h1,if_pos h1]; rfl
 ·by_cases h2:b.length<a.length
  ·rw [if_pos h2,if_neg h1,if_pos h2]
  ·rw [if_neg h2,if_neg h1,if_neg h1,if_neg h2]; exact this
theorem aS {a b c:List Int} (h1:kc a b<0) (h2:kc b c<0):kc a c<0:=by
 have:=@ph a b c;unfold kc at h1 h2 ⊢
 by_cases x1:a.length<c.length
 ·rw [if_pos x1]; omega
 rw [if_neg x1]
 by_cases y1:a.length<b.length
 ·rw [if_neg (by omega),if_pos (by omega)] at h2; omega
 ·rw [if_neg y1] at h1
  by_cases y2:b.length<a.length
  ·rw [if_pos y2] at h1; omega
  ·rw [if_neg y2] at h1;rw [if_neg (by omega)] at h2
   by_cases y3:c.length<b.length
   ·rw [if_pos y3] at h2; omega
   ·rw [if_neg y3] at h2;rw [if_neg (by omega)];exact this h1 h2
theorem jK {a b c:List Int} (h1:¬ kc a b<0) (h2:¬ kc b c<0):¬ kc a c<0:=by
 intro h
 by_cases e1:kc a b=0
 ·rw [vn e1] at h; exact h2 h
 ·by_cases e2:kc b c=0
  ·rw [<- vn e2] at h; exact h1 h
  ·have r1:=Xb a b;have r2:=Xb b c;have a1:=lO a b;have a2:=lO b c;have a3:=lO a c;have:=aS (a:=c) (b:=b) (c:=a) (by omega) (by omega);omega
end Ru
theorem NA (a:Int):yU prog 225 [.int .i64 a] (.bool false):=by refine xY.xN mixed func225 JN (by simp) λhf=>?_;simp only [simprocAttr,-ZA,↓zU,↓zD,zV,zT,zW];exact .same
theorem Sy (a b:Int):yU prog 185 [.int .i64 a,.int .i64 b] (.int .i64 (if a<b then -1 else if b<a then 1 else 0)):=by
 refine xY.xN mixed func185 J1 (by simp) λhf=>?_;simp only [simprocAttr,-ZA,↓zU,↓zD,zV,zT,zW];refine .go (cq (NA a)) ?_;simp only [simprocAttr,-ZA,↓zU,↓zD,zV,zT,zW];refine .go (cq (NA b)) ?_
 by_cases h1:a<b
 ·simp only [simprocAttr,-ZA,↓zU,↓zD,zV,zT,zW,h1];exact .same
 ·by_cases h2:b<a
  ·simp only [simprocAttr,-ZA,↓zU,↓zD,zV,zT,zW,h1,h2];exact .same
  ·simp only [simprocAttr,-ZA,↓zU,↓zD,zV,zT,zW,h1,h2];exact .same
theorem pg (x:Int) (a:List Int):tN (x :: a) []=1:=rfl
theorem im (x y:Int) (a b:List Int):tN (x :: a) (y :: b)= if x<y then -1 else if y<x then 1 else tN a b:=rfl
theorem K9 (a b:List Int):yU prog 213 [.sl 1 (rows .i64 a),.sl 1 (rows .i64 b)] (.int .i64 (tN a b)):=by
 refine xY.xN mixed func213 JD (by simp) λhf=>?_;simp only [D.sZ,D.fact,yO] at hf;have hlen:=hf.1.1;simp only [simprocAttr,-ZA,↓zU,↓zD,zV,zT,zW]
 refine xP (λk:Nat=>[(11,.int .i64 k),(10,.int .i64 a.length),(9,.sl 1 (rows .i64 a)),(1,.sl 1 (rows .i64 b)),(0,.sl 1 (rows .i64 a))]) (λ_=>⟨0,[]⟩) (λk=>k<=a.length/\k<=b.length/\tN a b=tN (a.drop k) (b.drop k)) (λk=>a.length-k) 0 ⟨Ab _,Ab _,rfl⟩ ?_ ?_
 ·(refine xT.same ?_; simp [xS,Fr.get])
 intro k ⟨hk,hk2,hi⟩;refine xM mixed ?_
 by_cases h:k<a.length
 ·have hd:((k:Int)<(a.length:Int)):=by omega
  have e1:a.drop k=a.getD k 0 :: a.drop (k+1):=by simp [List.getD,h]
  rw [e1] at hi
  by_cases h2:k<b.length
  ·have hd2:¬ ((b.length:Int)<=(k:Int)):=by omega
   have hd3:((k:Int)<(b.length:Int)):=by omega
   have e2:b.drop k=b.getD k 0 :: b.drop (k+1):=by simp [List.getD,h2]
   rw [e2,im] at hi;simp only [simprocAttr,-ZA,↓zU,↓zD,zV,zT,zW,hd,yP .i64 a h,hd2,hd3,yP .i64 b h2]
   (repeat refine sd ?_)
   refine .go (xY.yH (Sy (a.getD k 0) (b.getD k 0)) rfl) ?_
   by_cases c1:a.getD k 0<b.getD k 0
   ·rw [if_pos c1] at hi ⊢;simp only [simprocAttr,-ZA,↓zU,↓zD,zV,zT,zW];rw [hi];exact .same
   ·by_cases c2:b.getD k 0<a.getD k 0
    ·rw [if_neg c1,if_pos c2] at hi ⊢;simp only [simprocAttr,-ZA,↓zU,↓zD,zV,zT,zW];rw [hi];exact .same
    ·rw [if_neg c1,if_neg c2] at hi ⊢;simp only [simprocAttr,-ZA,↓zU,↓zD,zV,zT,zW];refine⟨k+1,⟨by omega,by omega,hi⟩,?_,by omega⟩
     (refine xT.same ?_; simp only [xS,Fr.get,simprocAttr,-ZA,zS])
     exact wrap_i64 (by omega)
  ·have hd2:((b.length:Int)<=(k:Int)):=by omega
   rw [γ (show b.length<=k by omega),pg] at hi;simp only [simprocAttr,-ZA,↓zU,↓zD,zV,zT,zW,hd,yP .i64 a h,hd2]
   (repeat refine sd ?_)
   rw [hi];exact .same
 ·have hd:¬ ((k:Int)<(a.length:Int)):=by omega
  rw [γ (show a.length<=k by omega),Xc,χ] at hi
  by_cases c:a.length<b.length
  ·have c':(a.length:Int)<(b.length:Int):=by omega
   rw [if_neg (by omega)] at hi;simp only [simprocAttr,-ZA,↓zU,↓zD,zV,zT,zW,hd,c'];rw [hi];exact .same
  ·have c':¬ (a.length:Int)<(b.length:Int):=by omega
   rw [if_pos (by omega)] at hi;simp only [simprocAttr,-ZA,↓zU,↓zD,zV,zT,zW,hd,c'];rw [hi];exact .same
theorem Nl (a b:List Int):yU prog 87 [.sl 1 (rows .i64 a),.sl 1 (rows .i64 b)] (.bool (decide (a=b))):=by
 refine xY.xN mixed func87 Fs (by simp) λhf=>?_;simp only [D.sZ,D.fact,yO] at hf;have hlen:=hf.1.1;by_cases h1:a.length=b.length
 case neg=>
  have h1':((a.length:Int) != (b.length:Int))= true:=by simp; omega
  simp only [simprocAttr,-ZA,↓zU,↓zD,zV,zT,zW,h1'];exact .drop (by simp) (by simp only [vw,D.bool.injEq]; symm; apply decide_eq_false; rintro rfl; exact h1 rfl)
 have h1':((a.length:Int) != (b.length:Int))= false:=by simp; omega
 simp only [simprocAttr,-ZA,↓zU,↓zD,zV,zT,zW,h1']
 refine xP (λk:Nat=>[(13,.int .i64 k),(12,.int .i64 a.length),(1,.sl 1 (rows .i64 b)),(0,.sl 1 (rows .i64 a))]) (λ_=>⟨0,[]⟩) (λk=>k<=a.length/\∀ i,i<k->a.getD i 0=b.getD i 0) (λk=>a.length-k) 0 ⟨Ab _,λi hi=>by omega⟩ ?_ ?_
 ·(refine xT.same ?_; simp [xS,Fr.get])
 intro k ⟨hk,hi⟩;refine xM mixed ?_
 by_cases h:k<a.length
 ·have hd:((k:Int)<(a.length:Int)):=by omega
  by_cases hb:a.getD k 0=b.getD k 0
  ·have hb1:(a.getD k 0 != b.getD k 0)= false:=by simp only [hb,bne_self_eq_false]
   simp only [simprocAttr,-ZA,↓zU,↓zD,zV,zT,zW,hd,yP _ _ h,yP .i64 b (show k<b.length by omega),hb1]
   (repeat refine sd ?_)
   refine⟨k+1,⟨by omega,λi hi2=>?_⟩,?_,by omega⟩
   ·by_cases ei:i=k
    ·rw [ei,hb]
    ·exact hi i (by omega)
   (refine xT.same ?_; simp only [xS,Fr.get,simprocAttr,-ZA,zS])
   exact wrap_i64 (by omega)
  ·have hb1:(a.getD k 0 != b.getD k 0)= true:=bne_iff_ne.2 hb;simp only [simprocAttr,-ZA,↓zU,↓zD,zV,zT,zW,hd,yP _ _ h,yP .i64 b (show k<b.length by omega),hb1]
   (repeat refine sd ?_)
   exact .drop (by simp) (by simp only [vw,D.bool.injEq]; symm; apply decide_eq_false; rintro rfl; exact hb rfl)
 ·have hd:¬ ((k:Int)<(a.length:Int)):=by omega
  have hk':k=a.length:=by omega
  subst hk';simp only [simprocAttr,-ZA,↓zU,↓zD,zV,zT,zW,hd];refine .drop (by simp) ?_;simp only [vw,D.bool.injEq]; symm; apply decide_eq_true;refine π h1 λi h2 h3=>?_;have:=hi i h2;simpa [List.getD,h2,h3] using this
theorem Kt (x y:Int):yU prog 184 [.sl 1 (rows .i64 [x,y])] (.int .i64 (if x≠0 then x else y)):=by
 refine xY.xN mixed func184 J0 (by simp) λhf=>?_;simp only [simprocAttr,-ZA,↓zU,↓zD,zV,zT,zW]
 refine xP (λk:Nat=>[(8,.int .i64 k),(7,.int .i64 2),(6,.sl 1 (rows .i64 [x,y])),(3,.int .i64 0)]) (λ_=>⟨0,[]⟩) (λk=>k<=2/\(0<k->x=0)/\ (1<k->y=0)) (λk=>2-k) 0 ⟨by omega,by omega,by omega⟩ ?_ ?_
 ·(refine xT.same ?_; simp [xS,Fr.get,rows])
 intro k ⟨hk,h0,h1⟩;refine xM mixed ?_
 obtain rfl | rfl | rfl:k=0\/k=1\/k=2:=by omega
 ·by_cases e:x=0
  ·have e':(x != 0)= false:=by simpa using e
   simp only [simprocAttr,-ZA,↓zU,↓zD,zV,zT,zW,e']
   (repeat refine sd ?_)
   exact⟨1,⟨by omega,λ_=>e,by omega⟩,by(refine xT.same ?_; simp only [xS,Fr.get,simprocAttr,-ZA,zS]); rfl,by omega⟩
  ·have e':(x != 0)= true:=by simpa using e
   simp only [simprocAttr,-ZA,↓zU,↓zD,zV,zT,zW,e']
   (repeat refine sd ?_)
   rw [if_pos e];exact .same
 ·have e0:=h0 (by omega);have c1:((1:Nat):Int)= 1:=rfl
  by_cases e:y=0
  ·have e':(y != 0)= false:=by simpa using e
   simp only [simprocAttr,-ZA,↓zU,↓zD,zV,zT,zW,e',c1]
   (repeat refine sd ?_)
   exact⟨2,⟨by omega,λ_=>e0,λ_=>e⟩,by(refine xT.same ?_; simp only [xS,Fr.get,simprocAttr,-ZA,zS]); rfl,by omega⟩
  ·have e':(y != 0)= true:=by simpa using e
   simp only [simprocAttr,-ZA,↓zU,↓zD,zV,zT,zW,e',c1]
   (repeat refine sd ?_)
   rw [if_neg (by omega)];exact .same
 ·have e0:=h0 (by omega);have e1:=h1 (by omega);have c1:((2:Nat):Int)= 2:=rfl;simp only [simprocAttr,-ZA,↓zU,↓zD,zV,zT,zW,c1];rw [if_neg (by omega),e1];exact .same
theorem yg (a b:List Int):yU prog 172 [.sl 1 (rows .i64 a),.sl 1 (rows .i64 b)] (.int .i64 (kc a b)):=by
 have h1:=Sy (a.length:Int) (b.length:Int);have h2:=K9 a b;have h3:=Kt (if (a.length:Int)<(b.length:Int) then -1 else if (b.length:Int)<(a.length:Int) then 1 else 0) (tN a b)
 have e:(if (if (a.length:Int)<(b.length:Int) then(-1:Int) else if (b.length:Int)<(a.length:Int) then 1 else 0)≠ 0 then(if (a.length:Int)<(b.length:Int) then(-1:Int) else if (b.length:Int)<(a.length:Int) then 1 else 0) else tN a b)= kc a b:=by
  unfold kc
  by_cases c1:a.length<b.length
  ·rw [if_pos (show (a.length:Int)<b.length by omega),if_pos c1]; rfl
  ·rw [if_neg (show ¬ (a.length:Int)<b.length by omega),if_neg c1]
   by_cases c2:b.length<a.length
   ·rw [if_pos (show (b.length:Int)<a.length by omega),if_pos c2]; rfl
   ·rw [if_neg (show ¬ (b.length:Int)<a.length by omega),if_neg c2]; rfl
 rw [e] at h3;simp only [eU,mT] at h3;generalize (if (a.length:Int)<(b.length:Int) then(-1:Int) else if (b.length:Int)<(a.length:Int) then 1 else 0)= z at h1 h3;refine xY.xN mixed func172 Iq (by simp) λhf=>?_;simp only [simprocAttr,-ZA,↓zU,↓zD,zV,zT,zW];refine .go (cq h1) ?_;simp only [simprocAttr,-ZA,↓zU,↓zD,zV,zT,zW];refine .go (cr h2) ?_;simp only [simprocAttr,-ZA,↓zU,↓zD,zV,zT,zW];refine⟨by simp [D.xR,D.xD],?_⟩;refine .go (cr h3) ?_;simp only [simprocAttr,-ZA,↓zU,↓zD,zV,zT,zW];exact .same
theorem N7 (a b:List Int):yU prog 174 [.sl 1 (rows .i64 a),.sl 1 (rows .i64 b)] (.bool (decide (a=b))):=by refine xY.xN mixed func174 Is (by simp) λhf=>?_;simp only [simprocAttr,-ZA,↓zU,↓zD,zV,zT,zW];refine .go (cr (Nl a b)) ?_;simp only [simprocAttr,-ZA,↓zU,↓zD,zV,zT,zW];exact .same
end Go.Pd

/- Part X7. -/
namespace Go.Pd
open Go Go.Proofs Go.Shelf Go.Sort
variable [uM]
def vJ (M:Nat->Prop) (w:World) (C:D->Prop):Type:={ p:Value × D // RP M w p.1 p.2/\p.1.oneCell'=true/\C p.2 }
theorem wa {α:Type} [Inhabited α] (oC:α->Value) (w:World) (nU off m:Nat) (d:Array α) (os:Array Obj) {b:Nat} (hb:b<w.heap.size) (hn:b≠nU):(sortWorld oC w nU off m d os).heap[b]?=w.heap[b]?:=by show (((Sort.ahead w m).heap.modify nU (onCells (putCells oC off d)))++ os)[b]?=_;rw [Af (by simpa using hb),Ah,if_neg (λe=>hn e.symm)];rfl
theorem nz {α:Type} [Inhabited α] (oC:α->Value) (w:World) (nU off m:Nat) (d:Array α) (os:Array Obj):w.heap.size<=(sortWorld oC w nU off m d os).heap.size:=by show w.heap.size<=(((Sort.ahead w m).heap.modify nU (onCells (putCells oC off d)))++ os).size;simp [Sort.ahead]
theorem ab {α:Type} [Inhabited α] (oC:α->Value) (w:World) (nU off m:Nat) (d:Array α) (os:Array Obj) {cur:Array Value} {e:TypeId} {fr:Nat × Nat} (hc:w.heap[nU]?=some (Obj.cells cur e fr)) :
  sortWorld oC w nU off m d os=grow ((w.setRow nU (putCells oC off d cur)).drewN m) os:=by
 unfold sortWorld;congr 1;unfold putRow mapBlock Sort.ahead World.drewN World.setRow;congr 1;apply Ai;intro k;simp only [Ah]
 by_cases hk:nU=k
 ·subst hk;simp only [if_true,hc,Option.map_some,onCells]
 ·simp [hk]
theorem Z8 {w w':World} (h:Kept w w' λ_=>False):∃ q os,w'=grow (w.drewN q) os:=by
 refine⟨w'.drawn-w.drawn,w'.heap.extract w.heap.size w'.heap.size,?_⟩;have hd:=h.drawn;have hs:=h.size;obtain⟨heap,tape,drawn,os,output⟩:=w;obtain⟨heap',tape',drawn',os',output'⟩:=w';have h1:=h.os;have h2:=h.tape;have h3:=h.output;have h4:=h.block;simp only at h1 h2 h3 h4 hd hs;subst h1; subst h2; subst h3;unfold grow World.drewN;simp only [World.mk.injEq,and_true,true_and];refine⟨?_,by omega⟩;apply Ai;intro i
 by_cases hi:i<heap.size
 ·rw [Af hi,h4 i hi id]
 ·rw [Array.getElem?_append_right (by omega),Array.getElem?_extract]
  by_cases h2:i<heap'.size
  ·rw [if_pos (by omega)];congr 1; omega
  ·rw [if_neg (by omega)];exact Array.getElem?_eq_none (by omega)
theorem UC {w:World} (q:Nat) (os:Array Obj):Kept w (grow (w.drewN q) os) λ_=>False:=by
 refine⟨rfl,rfl,rfl,by simp [World.drewN],λb hb _=>?_,λb cur e h=>⟨cur,?_,rfl⟩,by show w.drawn<=w.drawn+q; omega⟩
 ·show (w.heap++os)[b]?=_;rw [Af hb]
 ·have hb:b<w.heap.size:=(Ag.1 h).1;show (w.heap++os)[b]?=_;rw [Af hb];exact h
def hd (e:List D):D:=e.getD 0 .top
def Vi (cf:D->D->Int) (xV:List (List D)):Prop:=∀ i j,i<j->j<xV.length->¬ cf (hd (xV.getD j [])) (hd (xV.getD i []))<0
def vJ.oC {M:Nat->Prop} {w:World} {C:D->Prop} (a:vJ M w C):Value:=a.1.1
def vJ.ff {M:Nat->Prop} {w:World} {C:D->Prop} (a:vJ M w C):D:=a.1.2
def vJ.cf {M:Nat->Prop} {w:World} {C:D->Prop} (cf:D->D->Int) (a b:vJ M w C):Int:=cf a.ff b.ff
theorem Wl {α:Type} [Inhabited α] {n:Nat} {p:Nat->α->Prop} (h:∀ i,i<n->∃ a,p i a):∃ d:Array α,d.size=n/\∀ i,i<n->p i d[i]!:=by obtain⟨f,hf⟩:=Deep.choose_lt h;refine⟨((List.range n).map f).toArray,by simp,λi hi=>?_⟩;rw [getElem!_pos _ i (by simpa using hi)];simpa using hf i hi
theorem wv {α:Type} (a:Array α):a.extract 0 a.size=a:=by simp
theorem V4 {P:Program} {g:FuncId} {C:D->Prop} {cf:D->D->Int} (hcmp:∀ x y,C x->C y->yU P g [x,y] (.int .i64 (cf x y))) {M0:Nat->Prop} {w:World} {σ:St} {ι:Nat->Nat} (hS:wZ M0 w σ ι) {key:Nat} {ob:Ob} (hget:σ.get key=some ob) (size:Nat) [Inhabited (vJ (yG M0 ι σ) w C)] :
  CmpLays1 P g #[] (vJ.oC (M:=yG M0 ι σ) (w:=w) (C:=C)) (vJ.cf cf) (ι key) 0 size w:=by
 intro m os dk hdk x y;have hne:∀ b,¬ yG M0 ι σ b->b≠ι key:=λb hb e=>hb (.inr ⟨key,ob,hget,e.symm⟩)
 have hM:∀ b,yG (yG M0 ι σ) ι gY b->yG M0 ι σ b:=by
  rintro b (h | ⟨k,o,hk,_⟩)
  ·exact h
  ·cases hk
 have hsz:=nz vJ.oC w (ι key) 0 m dk os;have hblock:∀ b,b<w.heap.size->¬ yG M0 ι σ b->(sortWorld vJ.oC w (ι key) 0 m dk os).heap[b]?=w.heap[b]?:=λb hb hn=>wa vJ.oC w (ι key) 0 m dk os hb (hne b hn)
 have S1:wZ (yG M0 ι σ) (sortWorld vJ.oC w (ι key) 0 m dk os) gY ι:=⟨λb hb=>Ae (yG.lt hS hb) hsz,(λk o hk=>by cases hk),(λk k' o o' hk=>by cases hk),(λk o hk=>by cases hk),hS.pE.yD hsz hblock λb _ hb=>hM b hb⟩
 have yD:∀ z:vJ (yG M0 ι σ) w C,RP (yG (yG M0 ι σ) ι gY) (sortWorld vJ.oC w (ι key) 0 m dk os) z.oC z.ff:=λz=>z.2.1.yD hblock λb _ hb=>hM b hb
 refine((hcmp x.ff y.ff x.2.2.2 y.2.2.2).run _ _ ι (#[x.oC,y.oC] ++ #[]) S1 rfl λj hj=>?_).mono λe w' hh=>?_
 ·match j,hj with
  | 0,_=>exact .pure (yD x)
  | 1,_=>exact .pure (yD y)
 ·obtain⟨v,ι',rfl,k1,k2,k3,k4,k5,k6⟩:=hh;have K0:Kept (sortWorld vJ.oC w (ι key) 0 m dk os) w' λ_=>False:=k1.mono λb _ ⟨k,o,hk,_⟩=>by cases hk
  refine⟨?_,Z8 K0⟩;rw [k6.zJ.1];rfl
set_option maxHeartbeats 1000000 in
theorem j9 {P:Program} {ρ:Ren} (L:SlLaysF.n6 P ρ) (hord:tJ P (ρ.f 6)) {g:FuncId} {C:D->Prop} {cf:D->D->Int}
  (hg:tJ P g) (hcmp:∀ x y,C x->C y->yU P g [x,y] (.int .i64 (cf x y)))
  (hirr:∀ x,C x->¬ cf x x<0) (htr:∀ x y z,C x->C y->C z->cf x y<0->cf y z<0->cf x z<0) (hntr:∀ x y z,C x->C y->C z->¬ cf x y<0->¬ cf y z<0->¬ cf x z<0)
  {σ:St} {key:Nat} {xV target:List (List D)} (hget:σ.get key=some ⟨1,xV⟩) (hels:∀ e ∈ xV,∃ d:D,e = [d]/\d.xD=true/\C d) (hlen:xV.length<4611686018427387904) (hne:xV ≠ [])
  (hT:∀ els',els'.Perm xV->Vi cf els'->els'=target) :
  xY P (ρ.f 6) [.yM key 1 xV.length,.fn g []] σ (.wK []) (σ.set key ⟨1,target⟩):=by
 refine⟨hord,λM0 w ι vals hS hl hv=>?_⟩;have h0:=hv 0 (by simp);have h1:=hv 1 (by simp);simp only [List.getD_cons_zero,List.getD_cons_succ] at h0 h1;obtain⟨cap,cur0,e0,e1,kk,a1,a2,a3,a4⟩:=h0.sU;obtain⟨cb,f1,f2,f3⟩:=h1.cU;have hcb:cb = #[]:=Array.eq_empty_of_size_eq_zero (by simpa using f2);subst hcb
 have hvals:vals = #[.slice (some ⟨ι key,0,none⟩) xV.length cap,.func (.func g) #[] #[]]:=by
  obtain⟨l⟩:=vals
  match l,hl with
  | [x,y],_=> simp at e1 f1;rw [e1,f1]
 subst hvals;clear h0 h1 hv e1 f1 f2 f3 hl;have hk:=(hS.holds key _ hget).1;obtain⟨cur,e,c1,c2,c3,c4⟩:=yK.cells (hS.holds key _ hget).2 (Ac 0);simp only [Ad] at c3
 have cell:∀ i,i<xV.length->∃ a:vJ (yG M0 ι σ) w C,a.oC=cur.getD i undef/\xV.getD i [] = [a.ff]:=by
  intro i hi;have hm:xV.getD i [] ∈ xV:=by simp [List.getD,hi]
  obtain⟨d,hd,hp,hc⟩:=hels _ hm;have h:=c4 i hi 0 (Ac 0);simp only [Ad,Nat.add_zero] at h;rw [hd] at h;exact⟨⟨(cur.getD i undef,d),h.2.vc hp,h.1,hc⟩,rfl,hd⟩
 have hpos:0<xV.length:=ξ.2 hne;obtain⟨a0,_⟩:=cell 0 hpos
 haveI:Inhabited (vJ (yG M0 ι σ) w C):=⟨a0⟩
 obtain⟨d,hds,hdi⟩:=Wl cell
 have hO:SWO (ltOf (vJ.cf (M:=yG M0 ι σ) (w:=w) (C:=C) cf)):=by
  exact⟨λx=>decide_eq_false (hirr x.ff x.2.2.2),λx y z h1 h2=>decide_eq_true (htr x.ff y.ff z.ff x.2.2.2 y.2.2.2 z.2.2.2 (of_decide_eq_true h1) (of_decide_eq_true h2)),
   λx y z h1 h2=>decide_eq_false (hntr x.ff y.ff z.ff x.2.2.2 y.2.2.2 z.2.2.2 (of_decide_eq_false h1) (of_decide_eq_false h2))⟩
 have hH:Holds vJ.oC w (ι key) 0 d:=by
  intro j hj;have hj':j<xV.length:=by omega
  have hjc:j<cur.size:=by omega
  refine⟨?_,?_⟩
  ·rw [(hdi j hj').1];simp [World.cell?,c1,Array.getD,hjc]
  ·simp [World.frozen?,c1]
 have hcall:=Any.slices_SortFunc L (vJ.oC (M:=yG M0 ι σ) (w:=w) (C:=C)) (λx=>x.2.2.1) (vJ.cf cf) hO g #[] (ι key) 0 cap d w (λargs w=>nN hg args w) (V4 hcmp hS hget d.size) hH (Ag.1 c1).1 (by omega);rw [hds] at hcall;refine hcall.mono λe' w' hh=>?_;obtain⟨rfl,d',n,os,hp,hs,rfl⟩:=hh;rw [<- hds] at hp hs;have hsz:d'.size=d.size:=hp.1
 have e1:d.toList.map (λa=>[a.ff])= xV:=by refine π (by simpa using hds) λi h1 h2=>?_;have:=(hdi i h2).2;rw [getElem!_pos d i (by omega)] at this;simp only [List.getElem_map,Array.getElem_toList];simp only [List.getD,List.getElem?_eq_getElem h2,Option.getD_some] at this;exact this.symm
 have hperm:(d'.toList.map λa=>[a.ff]).Perm xV:=by
  rw [<- e1];have:=hp.2.2;rw [<- hsz] at this;conv at this=>lhs; rw [wv d']
  rw [hsz,wv d] at this;exact this.map _
 have hgd:∀ i,i<d'.size->hd ((d'.toList.map λa=>[a.ff]).getD i [])= (d'[i]!).ff:=by intro i hi;rw [getElem!_pos d' i hi];simp [hd,List.getD,hi]
 have hsort:Vi cf (d'.toList.map λa=>[a.ff]):=by
  intro i j hij hj;have hj':j<d'.size:=by simpa using hj
  rw [hgd j hj',hgd i (by omega)];have:=hs i j (Ab _) hij (by omega);exact of_decide_eq_false this
 have htarget:=hT _ hperm hsort;have htl:target.length=xV.length:=by rw [<- htarget]; exact hperm.length_eq
 rw [ab _ _ _ _ _ _ _ c1];have hcs:(putCells vJ.oC 0 d' cur).size=cur.size:=by simp [putCells]
 obtain⟨S2,K2⟩:=hS.set (ob':=⟨1,target⟩) hget c1 hcs (Ac 0) (by simp only [Ad]; omega) ⟨λel he=>by
   rw [<- htarget] at he;simp only [ζ] at he;obtain⟨a,_,rfl⟩:=he;rfl,λi hi j hj=>by
   have hj0:j=0:=by simp only at hj; omega
   subst hj0;simp only [Ad,Nat.add_zero];have hi':i<d'.size:=by simp only at hi; omega
   have hic:i<cur.size:=by omega
   have ev:(putCells vJ.oC 0 d' cur).getD i undef=(d'[i]!).oC:=by simp [putCells,Array.getD,hic,hi']
   have ed:(target.getD i []).getD 0 .top=(d'[i]!).ff:=by rw [<- htarget]; exact hgd i hi'
   rw [ev,ed];exact⟨(d'[i]!).2.2.1,.pure (d'[i]!).2.1⟩⟩
 have K3:=UC (w:=w.setRow (ι key) (putCells vJ.oC 0 d' cur)) n os;refine⟨.tuple #[],ι,rfl,K2.trans K3 (λ_ _ h=>h) (λ_ _ h=>h.elim),S2.ext K3,Aa _,λ_ _=>rfl,λk o hk=>?_,.wK rfl (λj hj=>by simp at hj)⟩
 by_cases ek:k=key
 ·subst ek; exact .inr ⟨k,_,hget,rfl⟩
 ·refine .inr ⟨k,o,?_,rfl⟩;rw [uS,if_neg (λe=>ek e.symm)] at hk;exact hk
end Go.Pd

/- Part SD. -/
set_option maxRecDepth 100000
namespace Go.Pd
open Go Go.Proofs Go.Shelf Go.Sort
open Ru
def b7 : Go.Shelf.Ren where
 f:=λx=>match x with | 6=>171 | 15=>189 | 14=>212 | 28=>235 | 29=>236 | 20=>242 | 21=>243 | 22=>244 | 23=>245 | 24=>246 | 25=>247 | 26=>248 | 27=>249 | 46=>269 | 47=>258 | 48=>259 | 49=>270 | 50=>271 | 57=>276 | n=>n
 t:=λx=>match x with | 22=>63 | 24=>90 | 25=>211 | 39=>88 | 53=>248 | 55=>56 | 46=>242 | 45=>241 | 50=>129 | 66=>268 | 70=>272 | 76=>280 | 77=>281 | n=>n
 g:=λx=>x
theorem UD : SlLaysF.n6 prog b7 where
 mixed:=by kernel_rfl
 f6:=⟨ "slices.SortFunc[[][]int,[]int]",by decide,func171.trans (congrArg some (by kernel_rfl))⟩
 f14:=⟨ "slices.pdqsortCmpFunc[[]int]",by decide,func212.trans (congrArg some (by kernel_rfl))⟩
 f15:=func189.trans (congrArg some (by kernel_rfl))
 f20:=⟨ "slices.insertionSortCmpFunc[[]int]",by decide,func242.trans (congrArg some (by kernel_rfl))⟩
 f21:=⟨ "slices.heapSortCmpFunc[[]int]",by decide,func243.trans (congrArg some (by kernel_rfl))⟩
 f22:=⟨ "slices.breakPatternsCmpFunc[[]int]",by decide,func244.trans (congrArg some (by kernel_rfl))⟩
 f23:=⟨ "slices.choosePivotCmpFunc[[]int]",by decide,func245.trans (congrArg some (by kernel_rfl))⟩
 f24:=⟨ "slices.reverseRangeCmpFunc[[]int]",by decide,func246.trans (congrArg some (by kernel_rfl))⟩
 f25:=⟨ "slices.partialInsertionSortCmpFunc[[]int]",by decide,func247.trans (congrArg some (by kernel_rfl))⟩
 f26:=⟨ "slices.partitionEqualCmpFunc[[]int]",by decide,func248.trans (congrArg some (by kernel_rfl))⟩
 f27:=⟨ "slices.partitionCmpFunc[[]int]",by decide,func249.trans (congrArg some (by kernel_rfl))⟩
 f28:=func235.trans (congrArg some (by kernel_rfl))
 f29:=func236.trans (congrArg some (by kernel_rfl))
 f46:=⟨ "slices.siftDownCmpFunc[[]int]",by decide,func269.trans (congrArg some (by kernel_rfl))⟩
 f47:=func258.trans (congrArg some (by kernel_rfl))
 f48:=func259.trans (congrArg some (by kernel_rfl))
 f49:=⟨ "slices.medianAdjacentCmpFunc[[]int]",by decide,func270.trans (congrArg some (by kernel_rfl))⟩
 f50:=⟨ "slices.medianCmpFunc[[]int]",by decide,func271.trans (congrArg some (by kernel_rfl))⟩
 f57:=⟨ "slices.order2CmpFunc[[]int]",by decide,func276.trans (congrArg some (by kernel_rfl))⟩
 t0:=Tryz.underlying0
 a0:=Tryz.isAgg0
 z0:=Tryz.sizeOf0
 v0:=Tryz.zeroValue0
 t3:=Tryz.underlying3
 a3:=Tryz.isAgg3
 z3:=Tryz.sizeOf3
 v3:=Tryz.zeroValue3
 t4:=Tryz.underlying4
 a4:=Tryz.isAgg4
 z4:=Tryz.sizeOf4
 v4:=Tryz.zeroValue4
 t5:=Tryz.underlying5
 a5:=Tryz.isAgg5
 z5:=Tryz.sizeOf5
 v5:=Tryz.zeroValue5
 t9:=Tryz.underlying9
 a9:=Tryz.isAgg9
 z9:=Tryz.sizeOf9
 v9:=Tryz.zeroValue9
 t22:=Tryz.underlying63
 a22:=Tryz.isAgg63
 z22:=Tryz.sizeOf63
 v22:=Tryz.zeroValue63
 a24:=Tryz.isAgg90
 z24:=Tryz.sizeOf90
 t25:=Tryz.underlying211
 a25:=Tryz.isAgg211
 z25:=Tryz.sizeOf211
 v25:=Tryz.zeroValue211
 t39:=Tryz.underlying88
 a39:=Tryz.isAgg88
 z39:=Tryz.sizeOf88
 v39:=Tryz.zeroValue88
 t45:=Tryz.underlying241
 a45:=Tryz.isAgg241
 z45:=Tryz.sizeOf241
 v45:=Tryz.zeroValue241
 t46:=Tryz.underlying242
 a46:=Tryz.isAgg242
 z46:=Tryz.sizeOf242
 v46:=Tryz.zeroValue242
 t50:=Tryz.underlying129
 a50:=Tryz.isAgg129
 z50:=Tryz.sizeOf129
 v50:=Tryz.zeroValue129
 t53:=Tryz.underlying248
 a53:=Tryz.isAgg248
 z53:=Tryz.sizeOf248
 v53:=Tryz.zeroValue248
 t55:=Tryz.underlying56
 a55:=Tryz.isAgg56
 z55:=Tryz.sizeOf56
 v55:=Tryz.zeroValue56
 t66:=Tryz.underlying268
 a66:=Tryz.isAgg268
 z66:=Tryz.sizeOf268
 v66:=Tryz.zeroValue268
 t70:=Tryz.underlying272
 a70:=Tryz.isAgg272
 z70:=Tryz.sizeOf272
 v70:=Tryz.zeroValue272
 t76:=Tryz.underlying280
 a76:=Tryz.isAgg280
 z76:=Tryz.sizeOf280
 v76:=Tryz.zeroValue280
 t77:=Tryz.underlying281
 a77:=Tryz.isAgg281
 z77:=Tryz.sizeOf281
 v77:=Tryz.zeroValue281
def PO : D->Int
 | .int _ n=>n
 | _=>0
theorem RO (l:List Int):(rows .i64 l).map (λe=>PO (hd e))= l:=by
 unfold rows;rw [η];conv=>rhs; rw [<- θ l]
 exact δ λx _=>rfl
theorem pA {k:Nat} {o:Ob}:∀ {r:List (Nat × Ob)},St.look r k=some o->zL r k o=r
 | [],h=>by cases h
 | (j,o') :: r,h=>by
  rw [xX] at h;rw [oX]
  by_cases e:j=k
  ·rw [if_pos e] at h ⊢;injection h with h; rw [h]
  ·rw [if_neg e] at h ⊢;rw [pA h]
def fc (l:List (List Int)):Prop:=l.Pairwise λa b=>¬ kc b a<0
def tK (l:List (List Int)):List (List Int):=l.mergeSort λa b=>decide (¬ kc b a<0)
theorem jI (l:List (List Int)):(tK l).Perm l:=List.mergeSort_perm l _
theorem Yh (a b:List Int):¬ kc b a<0\/¬ kc a b<0:=by have:=lO a b; omega
theorem qn (l:List (List Int)):fc (tK l):=by have:=List.pairwise_mergeSort (le:=λa b:List Int=>decide (¬ kc b a<0)) (λa b c h1 h2=>by simp only [decide_eq_true_eq] at h1 h2 ⊢; exact jK h2 h1) (λa b=>by simp only [Bool.or_eq_true,decide_eq_true_eq]; exact Yh a b) l;unfold fc tK;exact this.imp λh=>by simpa using h
theorem bj {a b:List Int} (h1:¬ kc b a<0) (h2:¬ kc a b<0):a=b:=vn (by have:=lO a b; omega)
theorem au {l m:List (List Int)} (hp:m.Perm l) (hm:fc m):m=tK l:= List.Perm.eq_of_pairwise (le:=λa b=>¬ kc b a<0) (λx y _ _ h1 h2=>bj h1 h2) hm (qn l) (hp.trans (jI l).symm)
def dY : D->List Int
 | .sl _ xV=>xV.map λe=>PO (hd e)
 | _=>[]
theorem gF (l:List Int):dY (.sl 1 (rows .i64 l))= l:=RO l
theorem Ov {l:List (List Int)} {xV:List (List D)} (h:xV.Perm (rl l)):∃ m:List (List Int),xV=rl m/\m.Perm l:=by
 refine⟨xV.map λe=>dY (hd e),?_,?_⟩
 ·unfold rl;rw [η];conv=>lhs; rw [<- θ xV]
  refine δ λe he=>?_;have:=h.mem_iff.1 he;simp only [rl,ζ] at this;obtain⟨n,_,rfl⟩:=this;show [D.sl 1 (rows .i64 n)] = [D.sl 1 (rows .i64 (dY (.sl 1 (rows .i64 n))))];rw [gF]
 ·have:=h.map λe=>dY (hd e)
  have e:(rl l).map (λe=>dY (hd e))= l:=by
   unfold rl;rw [η];conv=>rhs; rw [<- θ l]
   exact δ λx _=>gF x
  rw [e] at this;exact this
theorem N6 {l:List (List Int)} {i:Nat} (h:i<l.length):dY (hd ((rl l).getD i []))= l.getD i []:=by rw [pS _ h]; exact gF _
theorem SR {o:List (List Int)} (h:∀ a b,a<b->b<o.length->¬ kc (o.getD b []) (o.getD a [])<0):fc o:=by unfold fc;rw [τ];intro i j hi hj hij;have:=h i j hij hj;simpa [List.getD,hi,hj] using this
theorem Zf {σ:St} {key:Nat} {l:List (List Int)} (hget:σ.get key=some ⟨1,rl l⟩) (hne:l ≠ []) (hlen:l.length<=1000) :
  xY prog 171 [.yM key 1 l.length,.fn 172 []] σ (.wK []) (σ.set key ⟨1,rl (tK l)⟩):=by
 have ho:tJ prog 171:=⟨_,func171,by kernel_rfl,by kernel_rfl⟩;have ho2:tJ prog 172:=⟨_,func172,by kernel_rfl,by kernel_rfl⟩
 have h:=j9 (P:=prog) (ρ:=b7) UD ho (g:=172) (C:=λd=>∃ l:List Int,d = .sl 1 (rows .i64 l)) (cf:=λx y=>kc (dY x) (dY y)) ho2
  (by rintro x y ⟨a,rfl⟩ ⟨b,rfl⟩; rw [gF,gF]; exact yg a b) (by intro x _; rw [bl]; omega) (by intro x y z _ _ _ h1 h2; exact aS h1 h2) (by intro x y z _ _ _ h1 h2; exact jK h1 h2)
  hget (target:=rl (tK l)) (by
   intro e he;have hp:=ca l e he;simp only [rl,ζ] at he;obtain⟨n,hn,rfl⟩:=he;exact⟨_,rfl,by simpa [D.xR] using hp,n,rfl⟩) (by rw [wG]; omega) (by intro c; apply hne; simpa [rl] using c) (by
   intro els' hp hs;obtain⟨m,rfl,hm⟩:=Ov hp;rw [au hm (SR λa b hab hb=>?_)];have:=hs a b hab (by rw [wG]; exact hb);change ¬ kc (dY _) (dY _)<0 at this;rw [N6 hb,N6 (show a<m.length by omega)] at this;exact this)
 rw [wG] at h;exact h
end Go.Pd

/- Part SE. -/
namespace Go.Pd
open Go Go.Proofs
open BitVec renaming isValue -> ZA
open Ru
def below (m:List (List Int)) (x:List Int):Nat:=(m.filter λy=>decide (kc y x<0)).length
theorem aP {x:List Int}:∀ {m:List (List Int)} {i:Nat},i<=m.length->(∀ a,a<i->kc (m.getD a []) x<0)->(∀ a,i<=a->a<m.length->¬ kc (m.getD a []) x<0)->below m x=i
 | [],i,h,_,_=>by simp at h; simp [below,h]
 | y :: m,0,_,_,h2=>by have h0:=h2 0 (Aa _) (by simp);have ih:=aP (x:=x) (m:=m) (i:=0) (Ab _) (λa ha=>by omega) (λa _ ha=>by simpa using h2 (a+1) (by omega) (by simp; omega));unfold below at ih ⊢;rw [ω,if_neg (by simpa using h0),ih]
 | y :: m,i+1,hi,h1,h2=>by have h0:=h1 0 (by omega);have ih:=aP (x:=x) (m:=m) (i:=i) (by simpa using hi) (λa ha=>by simpa using h1 (a+1) (by omega)) (λa ha hb=>by simpa using h2 (a+1) (by omega) (by simp; omega));unfold below at ih ⊢;rw [ω,if_pos (by simpa using h0),ο,ih]
theorem j8 {n:Nat} (h:n<=1000000):fb .u64 (n:Int) (ui 1#64)= ((n / 2:Nat):Int):=by unfold fb;have e:min (ui 1#64).toNat IntKind.u64.bits=1:=rfl;rw [e];show ((n:Int)).fdiv 2=_;rw [Int.fdiv_eq_ediv_of_nonneg _ (by decide)];omega
theorem df {m:List (List Int)} {x:List Int} (hm:fc m) {a b:Nat} (hab:a<=b) (hb:b<m.length) (h:kc (m.getD b []) x<0):kc (m.getD a []) x<0:=by
 by_cases e:a=b
 ·rw [e]; exact h
 ·have hp:=τ.1 hm a b (by omega) hb (by omega);have e1:m.getD a []=m[a]'(by omega):=by simp [List.getD,show a<m.length by omega]
  have e2:m.getD b []=m[b]:=by simp [List.getD,hb]
  rw [e1]; rw [e2] at h
  by_cases c:kc (m[a]'(by omega)) x<0
  ·exact c
  ·exact absurd h (jK hp c)
def zF (l:List (List Int)):Nat->List (List Int)
 | 0=>[]
 | k+1=>if 0<k/\l.getD k []=l.getD (k-1) [] then zF l k else zF l k ++ [l.getD k []]
def dedup (l:List (List Int)):List (List Int):=zF l l.length
theorem oU {l:List (List Int)}:∀ {k:Nat},k<=l.length->(∀ i,0<i->i<k->l.getD i []≠l.getD (i-1) [])->zF l k=l.take k
 | 0,_,_=>by simp [zF]
 | k+1,h,hn=>by rw [zF,if_neg (λc=>hn k c.1 (by omega) c.2),oU (by omega) (λi h1 h2=>hn i h1 (by omega)),<- zA (by omega)]
theorem az (l:List (List Int)):∀ k,(zF l k).length<=k
 | 0=>Aa _
 | k+1=>by
  have:=az l k;rw [zF]
  split
  ·omega
  ·rw [ε]; simp; omega
theorem Tv (l:List (List Int)) (k:Nat):(zF l k).length<=(zF l (k+1)).length:=by
 rw [zF]; split
 ·exact Aa _
 ·rw [ε]; omega
theorem MC (l:List (List Int)) (i:Nat) (x:List Int):(rl l).set i [.sl 1 (rows .i64 x)]=rl (l.set i x):=by simp [rl,List.map_set]
theorem eP (o:List (List Int)) (i j:Nat) (x:List Int):(o.set i x).getD j []=if i=j/\j<o.length then x else o.getD j []:=by
 simp only [List.getD,List.getElem?_set]
 split
 ·rename_i h; subst h; by_cases hj:i<o.length
  ·simp [hj]
  ·simp [hj]
 ·rename_i h; simp [h]
theorem qp (l:List (List Int)):∀ k,0<(zF l (k+1)).length
 | 0=>by rw [zF,if_neg (by omega),ε]; simp
 | k+1=>Ae (qp l k) (Tv l (k+1))
theorem qM {k:Nat} {o o':Ob}:∀ {r:List (Nat × Ob)},St.look r k=some o->St.look (zL r k o') k=some o'
 | [],h=>by cases h
 | (j,ob) :: r,h=>by
  rw [xX] at h;rw [oX]
  by_cases e:j=k
  ·rw [if_pos e,xX,if_pos e]
  ·rw [if_neg e] at h;rw [if_neg e,xX,if_neg e,qM h]
theorem pB (k:Nat) (a b:Ob):∀ r:List (Nat × Ob),zL (zL r k a) k b=zL r k b
 | []=>rfl
 | (j,ob) :: r=>by
  rw [oX,oX]
  by_cases e:j=k
  ·rw [if_pos e,if_pos e,oX,if_pos e]
  ·rw [if_neg e,if_neg e,oX,if_neg e,pB k a b r]
def Pa (l:List (List Int)):List (List D):=rl (dedup l)++ List.replicate (l.length-(dedup l).length) [.xO]
theorem Tt {σ:St} {key:Nat} {l:List (List Int)} (hget:σ.get key=some ⟨1,rl l⟩) (hlen:l.length<=1000) (hne:l ≠ []) :
  xY prog 173 [.yM key 1 l.length,.fn 174 []] σ (.yM key 1 (dedup l).length) (σ.set key ⟨1,Pa l⟩):=by
 obtain⟨nx,xZ⟩:=σ;have hpos:0<l.length:=ξ.2 hne;have hg:St.look xZ key=some ⟨1,rl l⟩:=hget
 have whole:dedup l=l->(.yM key 1 (dedup l).length=D.yM key 1 l.length/\(⟨nx,zL xZ key ⟨1,Pa l⟩⟩:St)= ⟨nx,xZ⟩):=by
  intro e;refine⟨by rw [e],?_⟩;have:Pa l=rl l:=by unfold Pa; rw [e]; simp
  rw [this,pA hg]
 refine xY.xN mixed func173 Ir (by simp) λhf=>?_
 by_cases h2:l.length<2
 ·have hd:(l.length:Int)<2:=by omega
  simp only [simprocAttr,-ZA,↓zU,↓zD,zV,zT,zW,hd]
  have e:dedup l=l:=by unfold dedup;rw [oU (Aa _) (λi h1 h3=>by omega),κ]
  obtain⟨e1,e2⟩:=whole e;exact .inl ⟨e1,e2⟩
 have hd:¬ (l.length:Int)<2:=by omega
 simp only [simprocAttr,-ZA,↓zU,↓zD,zV,zT,zW,hd]
 refine xP (λk:Nat=>[(5,.int .i64 k),(1,.fn 174 []),(0,.yM key 1 l.length)]) (λ_=>⟨nx,xZ⟩) (λk=>1<=k/\k<=l.length/\∀ i,0<i->i<k->l.getD i []≠l.getD (i-1) []) (λk=>l.length-k) 1 ⟨Aa _,by omega,λi h1 h2=>by omega⟩ ?_ ?_
 ·(refine xT.same ?_; simp [xS,Fr.get])
 intro i0 ⟨hi1,hi2,hi3⟩;refine xM mixed ?_;by_cases h:i0<l.length
 case neg=>
  have hd:¬ ((i0:Int)<(l.length:Int)):=by omega
  have e:dedup l=l:=by unfold dedup;rw [oU (Aa _) (λi h1 h3=>hi3 i h1 (by omega)),κ]
  obtain⟨e1,e2⟩:=whole e;simp only [simprocAttr,-ZA,↓zU,↓zD,zV,zT,zW,hd];exact .inl ⟨e1,e2⟩
 have hd:((i0:Int)<(l.length:Int)):=by omega
 have em:IntKind.i64.wrap ((i0:Int)-1)= ((i0-1:Nat):Int):=by rw [wrap_i64 (by omega)]; omega
 simp only [simprocAttr,-ZA,↓zU,↓zD,zV,zT,zW,hd,hg,pS l h,em,wG,pS l (show i0-1<l.length by omega)]
 (repeat refine sd ?_)
 refine .go (xY.yH (N7 (l.getD i0 []) (l.getD (i0-1) [])) (by simp [D.xR,D.xD])) ?_;by_cases hq:l.getD i0 []=l.getD (i0-1) []
 case neg=>
  simp only [simprocAttr,-ZA,↓zU,↓zD,zV,zT,zW,decide_eq_false hq]
  refine⟨i0+1,⟨by omega,by omega,λi h1 h3=>?_⟩,?_,by omega⟩
  ·by_cases e:i=i0
   ·rw [e]; exact hq
   ·exact hi3 i h1 (by omega)
  (refine xT.same ?_; simp only [xS,Fr.get,simprocAttr,-ZA,zS])
  exact wrap_i64 (by omega)
 simp only [simprocAttr,-ZA,↓zU,↓zD,zV,zT,zW,decide_eq_true hq];have ei:¬ (i0:Int)= 0:=by omega
 have ei2:¬ (i0:Int)= (l.length:Int):=by omega
 refine⟨i0,l.length,rfl,rfl,by omega,by omega,by omega,?_⟩;simp only [Aj,if_neg ei,if_neg ei2];have d1:zF l (i0+1)= l.take i0:=by rw [zF,if_pos ⟨by omega,hq⟩,oU (by omega) hi3]
 refine xP (λa:Nat × List (List Int)=>[(7,.int .i64 a.1),(6,.sub key 1 i0 (l.length-i0)),(5,.int .i64 (zF l (i0+a.1)).length),(1,.fn 174 []),(0,.yM key 1 l.length)]) (λa=>⟨nx,zL xZ key ⟨1,rl a.2⟩⟩)
  (λa=>1<=a.1/\i0+a.1<=l.length/\a.2.length=l.length/\(zF l (i0+a.1)).length<i0+a.1/\a.2.take (zF l (i0+a.1)).length=zF l (i0+a.1)/\ ∀ j,i0+a.1-1<=j->a.2.getD j []=l.getD j []) (λa=>l.length-a.1) (1,l)
  ⟨Aa _,by omega,rfl,by rw [d1,μ]; omega,by rw [d1,μ,Nat.min_eq_left (by omega)],λj _=>rfl⟩ ?_ ?_
 ·rw [pA hg]
  (refine xT.same ?_; simp [xS,Fr.get,d1])
  omega
 intro ⟨q,o⟩ ⟨q1,q2,q3,q4,q5,q6⟩;simp only at q1 q2 q3 q4 q5 q6;have hlk:∀ ob:Ob,St.look (zL xZ key ob) key=some ob:=λob=>qM hg;refine xM mixed ?_
 by_cases hp:i0+q<l.length
 ·have hd3:((q:Int)<((l.length-i0:Nat):Int)):=by omega
  have eq1:IntKind.i64.wrap ((q:Int)-1)= ((q-1:Nat):Int):=by rw [wrap_i64 (by omega)]; omega
  simp only [simprocAttr,-ZA,↓zU,↓zD,zV,zT,zW,hd3,hlk,eq1,wG,pS o (show i0+q<o.length by omega),pS o (show i0+(q-1)<o.length by omega)]
  (repeat refine sd ?_)
  refine .go (xY.yH (N7 (o.getD (i0+q) []) (o.getD (i0+(q-1)) [])) (by simp [D.xR,D.xD])) ?_;have a1:o.getD (i0+q) []=l.getD (i0+q) []:=q6 _ (by omega);have a2:o.getD (i0+(q-1)) []=l.getD (i0+q-1) []:=by rw [q6 _ (by omega)]; congr 1; omega
  rw [a1,a2]
  by_cases hq2:l.getD (i0+q) []=l.getD (i0+q-1) []
  ·have dd:zF l (i0+(q+1))= zF l (i0+q):=by show zF l ((i0+q)+ 1)= _;rw [zF,if_pos ⟨by omega,hq2⟩]
   simp only [simprocAttr,-ZA,↓zU,↓zD,zV,zT,zW,decide_eq_true hq2];refine⟨(q+1,o),⟨by show 1<=q+1; omega,by show i0+(q+1)<=l.length; omega,q3,by show (zF l (i0+(q+1))).length<i0+(q+1); rw [dd]; omega,by show o.take (zF l (i0+(q+1))).length=zF l (i0+(q+1)); rw [dd,q5],λj hj=>q6 j (by change i0+(q+1)-1<=j at hj; omega)⟩,?_,by show l.length-(q+1)<l.length-q; omega⟩
   (refine xT.same ?_; simp only [xS,Fr.get,simprocAttr,-ZA,zS,dd])
   exact wrap_i64 (by omega)
  ·have dd:zF l (i0+(q+1))= zF l (i0+q)++ [l.getD (i0+q) []]:=by show zF l ((i0+q)+ 1)= _;rw [zF,if_neg (λc=>hq2 c.2)]
   have dl:(zF l (i0+(q+1))).length=(zF l (i0+q)).length+1:=by rw [dd,ε]; rfl
   simp only [simprocAttr,-ZA,↓zU,↓zD,zV,zT,zW,decide_eq_false hq2,hlk,wG,pS o (show i0+q<o.length by omega),a1]
   (repeat refine sd ?_)
   have c1:(zF l (i0+q)).length<o.length:=by omega
   have eset:(rl o).set (zF l (i0+q)).length (((rl o).getD (zF l (i0+q)).length []).set 0 (D.sl 1 (rows .i64 (l.getD (i0+q) []))))= rl (o.set (zF l (i0+q)).length (l.getD (i0+q) [])):=by rw [pS o c1];exact MC _ _ _
   refine⟨(q+1,o.set (zF l (i0+q)).length (l.getD (i0+q) [])),⟨by show 1<=q+1; omega,by show i0+(q+1)<=l.length; omega,by show (o.set _ _).length=_; rw [ν]; exact q3,by show (zF l (i0+(q+1))).length<i0+(q+1); omega,?_,λj hj=>?_⟩,?_,by show l.length-(q+1)<l.length-q; omega⟩
   ·show (o.set (zF l (i0+q)).length (l.getD (i0+q) [])).take (zF l (i0+(q+1))).length=_;rw [dl,zA (d:=[]) (by rw [ν]; exact c1),eP,if_pos ⟨rfl,c1⟩,dd,υ (Aa _),q5]
   ·change i0+(q+1)-1<=j at hj;show (o.set (zF l (i0+q)).length (l.getD (i0+q) [])).getD j []=_;rw [eP,if_neg (by omega)];exact q6 j (by omega)
   ·simp only [pB,eset]
    (refine xT.same ?_; simp only [xS,Fr.get,simprocAttr,-ZA,zS,dl])
    exact⟨wrap_i64 (by omega),wrap_i64 (by omega)⟩
 ·have hd3:¬ ((q:Int)<((l.length-i0:Nat):Int)):=by omega
  have ed:zF l (i0+q)= dedup l:=by unfold dedup; rw [show i0+q=l.length by omega]
  have c0:0<(dedup l).length:=by have:=qp l (l.length-1);rw [show l.length-1+1=l.length by omega] at this;exact this
  rw [ed] at q4 q5;simp only [simprocAttr,-ZA,↓zU,↓zD,zV,zT,zW,hd3,ed];refine⟨(dedup l).length,l.length,rfl,rfl,by omega,by omega,by omega,?_⟩;rw [if_neg (show ¬ ((dedup l).length:Int)= 0 by omega),if_neg (show ¬ ((dedup l).length:Int)= (l.length:Int) by omega)];simp only [Aj,hlk,wG,true_and];refine⟨by omega,by omega,?_⟩;refine⟨0,(dedup l).length,rfl,rfl,by omega,by omega,by omega,?_⟩;rw [if_pos rfl];refine .inl ⟨by rw [Aj],?_⟩;have e2:(rl o).take (dedup l).length=rl (dedup l):=by rw [Ow,q5]
  have e3:(rl o).drop ((dedup l).length+(l.length-(dedup l).length))= []:=γ (by rw [wG]; omega)
  have e4:Pa l=(rl o).take (dedup l).length++(List.replicate (l.length-(dedup l).length) [D.xO]++(rl o).drop ((dedup l).length+(l.length-(dedup l).length))):=by rw [e2,e3,List.append_nil]; rfl
  rw [e4];simp only [pB]
end Go.Pd

/- Part KF. -/
set_option maxRecDepth 100000
namespace Go.Pd
open Go Go.Proofs Go.Shelf Go.Sort
open BitVec renaming isValue -> ZA
open Ru
def pI (ll:List (List Int)):List (List D):=ll.map λl=>[.sl 1 (rows .u64 l)]
theorem tR (l:List (List Int)):(pI l).length=l.length:=by simp [pI]
theorem nP (l:List (List Int)) {i:Nat} (h:i<l.length):(pI l).getD i [] = [.sl 1 (rows .u64 (l.getD i []))]:=by simp [pI,List.getD,h]
theorem RM (l:List (List Int)) (n:Nat):(pI l).take n=pI (l.take n):=by simp [pI,List.map_take]
theorem RK (l:List (List Int)) (r:List Int):pI l ++ [[.sl 1 (rows .u64 r)]]=pI (l ++ [r]):=by simp [pI]
theorem WG : pI [] = []:=rfl
theorem sj (l:List (List Int)):∀ e ∈ pI l,D.xR e=true:=by intro e he;simp only [pI,ζ] at he;obtain⟨r,_,rfl⟩:=he;have h:∀ e ∈ rows .u64 r,D.xR e=true:=tI _ r;have:(rows .u64 r).all D.xR=true:=List.all_eq_true.2 h;simp [D.xR,D.xD,this]
theorem Ud (l:List (List Int)):tW (pI l):=sj l
theorem Sk (a:Int):yU prog 256 [.int .u64 a] (.bool false):=by refine xY.xN mixed func256 JV (by simp) λhf=>?_;simp only [simprocAttr,-ZA,↓zU,↓zD,zV,zT,zW];exact .same
theorem Le (a b:Int):yU prog 226 [.int .u64 a,.int .u64 b] (.int .i64 (if a<b then -1 else if b<a then 1 else 0)):=by
 refine xY.xN mixed func226 JO (by simp) λhf=>?_;simp only [simprocAttr,-ZA,↓zU,↓zD,zV,zT,zW];refine .go (cq (Sk a)) ?_;simp only [simprocAttr,-ZA,↓zU,↓zD,zV,zT,zW];refine .go (cq (Sk b)) ?_
 by_cases h1:a<b
 ·simp only [simprocAttr,-ZA,↓zU,↓zD,zV,zT,zW,h1];exact .same
 ·by_cases h2:b<a
  ·simp only [simprocAttr,-ZA,↓zU,↓zD,zV,zT,zW,h1,h2];exact .same
  ·simp only [simprocAttr,-ZA,↓zU,↓zD,zV,zT,zW,h1,h2];exact .same
theorem Lt (a b:List Int):yU prog 186 [.sl 1 (rows .u64 a),.sl 1 (rows .u64 b)] (.int .i64 (tN a b)):=by
 refine xY.xN mixed func186 J2 (by simp) λhf=>?_;simp only [D.sZ,D.fact,yO] at hf;have hlen:=hf.1.1;simp only [simprocAttr,-ZA,↓zU,↓zD,zV,zT,zW]
 refine xP (λk:Nat=>[(11,.int .i64 k),(10,.int .i64 a.length),(9,.sl 1 (rows .u64 a)),(1,.sl 1 (rows .u64 b)),(0,.sl 1 (rows .u64 a))]) (λ_=>⟨0,[]⟩) (λk=>k<=a.length/\k<=b.length/\tN a b=tN (a.drop k) (b.drop k)) (λk=>a.length-k) 0 ⟨Ab _,Ab _,rfl⟩ ?_ ?_
 ·(refine xT.same ?_; simp [xS,Fr.get])
 intro k ⟨hk,hk2,hi⟩;refine xM mixed ?_
 by_cases h:k<a.length
 ·have hd:((k:Int)<(a.length:Int)):=by omega
  have e1:a.drop k=a.getD k 0 :: a.drop (k+1):=by simp [List.getD,h]
  rw [e1] at hi
  by_cases h2:k<b.length
  ·have hd2:¬ ((b.length:Int)<=(k:Int)):=by omega
   have hd3:((k:Int)<(b.length:Int)):=by omega
   have e2:b.drop k=b.getD k 0 :: b.drop (k+1):=by simp [List.getD,h2]
   rw [e2,im] at hi;simp only [simprocAttr,-ZA,↓zU,↓zD,zV,zT,zW,hd,yP .u64 a h,hd2,hd3,yP .u64 b h2]
   (repeat refine sd ?_)
   refine .go (xY.yH (Le (a.getD k 0) (b.getD k 0)) rfl) ?_
   by_cases c1:a.getD k 0<b.getD k 0
   ·rw [if_pos c1] at hi ⊢;simp only [simprocAttr,-ZA,↓zU,↓zD,zV,zT,zW];rw [hi];exact .same
   ·by_cases c2:b.getD k 0<a.getD k 0
    ·rw [if_neg c1,if_pos c2] at hi ⊢;simp only [simprocAttr,-ZA,↓zU,↓zD,zV,zT,zW];rw [hi];exact .same
    ·rw [if_neg c1,if_neg c2] at hi ⊢;simp only [simprocAttr,-ZA,↓zU,↓zD,zV,zT,zW];refine⟨k+1,⟨by omega,by omega,hi⟩,?_,by omega⟩
     (refine xT.same ?_; simp only [xS,Fr.get,simprocAttr,-ZA,zS])
     exact wrap_i64 (by omega)
  ·have hd2:((b.length:Int)<=(k:Int)):=by omega
   rw [γ (show b.length<=k by omega),pg] at hi;simp only [simprocAttr,-ZA,↓zU,↓zD,zV,zT,zW,hd,yP .u64 a h,hd2]
   (repeat refine sd ?_)
   rw [hi];exact .same
 ·have hd:¬ ((k:Int)<(a.length:Int)):=by omega
  rw [γ (show a.length<=k by omega),Xc,χ] at hi
  by_cases c:a.length<b.length
  ·have c':(a.length:Int)<(b.length:Int):=by omega
   rw [if_neg (by omega)] at hi;simp only [simprocAttr,-ZA,↓zU,↓zD,zV,zT,zW,hd,c'];rw [hi];exact .same
  ·have c':¬ (a.length:Int)<(b.length:Int):=by omega
   rw [if_pos (by omega)] at hi;simp only [simprocAttr,-ZA,↓zU,↓zD,zV,zT,zW,hd,c'];rw [hi];exact .same
theorem XP (a b:List Int):yU prog 74 [.sl 1 (rows .u64 a),.sl 1 (rows .u64 b)] (.bool (decide (a=b))):=by
 refine xY.xN mixed func74 Fo (by simp) λhf=>?_;simp only [D.sZ,D.fact,yO] at hf;have hlen:=hf.1.1;by_cases h1:a.length=b.length
 case neg=>
  have h1':((a.length:Int) != (b.length:Int))= true:=by simp; omega
  simp only [simprocAttr,-ZA,↓zU,↓zD,zV,zT,zW,h1'];exact .drop (by simp) (by simp only [vw,D.bool.injEq]; symm; apply decide_eq_false; rintro rfl; exact h1 rfl)
 have h1':((a.length:Int) != (b.length:Int))= false:=by simp; omega
 simp only [simprocAttr,-ZA,↓zU,↓zD,zV,zT,zW,h1']
 refine xP (λk:Nat=>[(13,.int .i64 k),(12,.int .i64 a.length),(1,.sl 1 (rows .u64 b)),(0,.sl 1 (rows .u64 a))]) (λ_=>⟨0,[]⟩) (λk=>k<=a.length/\∀ i,i<k->a.getD i 0=b.getD i 0) (λk=>a.length-k) 0 ⟨Ab _,λi hi=>by omega⟩ ?_ ?_
 ·(refine xT.same ?_; simp [xS,Fr.get])
 intro k ⟨hk,hi⟩;refine xM mixed ?_
 by_cases h:k<a.length
 ·have hd:((k:Int)<(a.length:Int)):=by omega
  by_cases hb:a.getD k 0=b.getD k 0
  ·have hb1:(a.getD k 0 != b.getD k 0)= false:=by simp only [hb,bne_self_eq_false]
   simp only [simprocAttr,-ZA,↓zU,↓zD,zV,zT,zW,hd,yP _ _ h,yP .u64 b (show k<b.length by omega),hb1]
   (repeat refine sd ?_)
   refine⟨k+1,⟨by omega,λi hi2=>?_⟩,?_,by omega⟩
   ·by_cases ei:i=k
    ·rw [ei,hb]
    ·exact hi i (by omega)
   (refine xT.same ?_; simp only [xS,Fr.get,simprocAttr,-ZA,zS])
   exact wrap_i64 (by omega)
  ·have hb1:(a.getD k 0 != b.getD k 0)= true:=bne_iff_ne.2 hb;simp only [simprocAttr,-ZA,↓zU,↓zD,zV,zT,zW,hd,yP _ _ h,yP .u64 b (show k<b.length by omega),hb1]
   (repeat refine sd ?_)
   exact .drop (by simp) (by simp only [vw,D.bool.injEq]; symm; apply decide_eq_false; rintro rfl; exact hb rfl)
 ·have hd:¬ ((k:Int)<(a.length:Int)):=by omega
  have hk':k=a.length:=by omega
  subst hk';simp only [simprocAttr,-ZA,↓zU,↓zD,zV,zT,zW,hd];refine .drop (by simp) ?_;simp only [vw,D.bool.injEq]; symm; apply decide_eq_true;refine π h1 λi h2 h3=>?_;have:=hi i h2;simpa [List.getD,h2,h3] using this
theorem cI (a b:List Int):yU prog 124 [.sl 1 (rows .u64 a),.sl 1 (rows .u64 b)] (.int .i64 (kc a b)):=by
 have h1:=Sy (a.length:Int) (b.length:Int);have h2:=Lt a b;have h3:=Kt (if (a.length:Int)<(b.length:Int) then -1 else if (b.length:Int)<(a.length:Int) then 1 else 0) (tN a b)
 have e:(if (if (a.length:Int)<(b.length:Int) then(-1:Int) else if (b.length:Int)<(a.length:Int) then 1 else 0)≠ 0 then(if (a.length:Int)<(b.length:Int) then(-1:Int) else if (b.length:Int)<(a.length:Int) then 1 else 0) else tN a b)= kc a b:=by
  unfold kc
  by_cases c1:a.length<b.length
  ·rw [if_pos (show (a.length:Int)<b.length by omega),if_pos c1]; rfl
  ·rw [if_neg (show ¬ (a.length:Int)<b.length by omega),if_neg c1]
   by_cases c2:b.length<a.length
   ·rw [if_pos (show (b.length:Int)<a.length by omega),if_pos c2]; rfl
   ·rw [if_neg (show ¬ (b.length:Int)<a.length by omega),if_neg c2]; rfl
 rw [e] at h3;simp only [eU,mT] at h3;generalize (if (a.length:Int)<(b.length:Int) then(-1:Int) else if (b.length:Int)<(a.length:Int) then 1 else 0)= z at h1 h3;refine xY.xN mixed func124 IT (by simp) λhf=>?_;simp only [simprocAttr,-ZA,↓zU,↓zD,zV,zT,zW];refine .go (cq h1) ?_;simp only [simprocAttr,-ZA,↓zU,↓zD,zV,zT,zW];refine .go (cr h2) ?_;simp only [simprocAttr,-ZA,↓zU,↓zD,zV,zT,zW];refine⟨by simp [D.xR,D.xD],?_⟩;refine .go (cr h3) ?_;simp only [simprocAttr,-ZA,↓zU,↓zD,zV,zT,zW];exact .same
theorem Si (a b:List Int):yU prog 129 [.sl 1 (rows .u64 a),.sl 1 (rows .u64 b)] (.bool (decide (a=b))):=by refine xY.xN mixed func129 IV (by simp) λhf=>?_;simp only [simprocAttr,-ZA,↓zU,↓zD,zV,zT,zW];refine .go (cr (XP a b)) ?_;simp only [simprocAttr,-ZA,↓zU,↓zD,zV,zT,zW];exact .same
theorem Ut (l:List Int):(rows .u64 l).map (λe=>PO (hd e))= l:=by
 unfold rows;rw [η];conv=>rhs; rw [<- θ l]
 exact δ λx _=>rfl
def b8 : Go.Shelf.Ren where
 f:=λx=>match x with | 6=>127 | 15=>189 | 14=>188 | 28=>235 | 29=>236 | 20=>227 | 21=>228 | 22=>229 | 23=>230 | 24=>231 | 25=>232 | 26=>233 | 27=>234 | 46=>257 | 47=>258 | 48=>259 | 49=>260 | 50=>261 | 57=>273 | n=>n
 t:=λx=>match x with | 22=>51 | 24=>22 | 25=>49 | 39=>88 | 53=>248 | 55=>56 | 46=>242 | 45=>241 | 50=>129 | 66=>268 | 70=>272 | 76=>280 | 77=>281 | n=>n
 g:=λx=>x
theorem UE : SlLaysF.n6 prog b8 where
 mixed:=by kernel_rfl
 f6:=⟨ "slices.SortFunc[[][]uint64,[]uint64]",by decide,func127.trans (congrArg some (by kernel_rfl))⟩
 f14:=⟨ "slices.pdqsortCmpFunc[[]uint64]",by decide,func188.trans (congrArg some (by kernel_rfl))⟩
 f15:=func189.trans (congrArg some (by kernel_rfl))
 f20:=⟨ "slices.insertionSortCmpFunc[[]uint64]",by decide,func227.trans (congrArg some (by kernel_rfl))⟩
 f21:=⟨ "slices.heapSortCmpFunc[[]uint64]",by decide,func228.trans (congrArg some (by kernel_rfl))⟩
 f22:=⟨ "slices.breakPatternsCmpFunc[[]uint64]",by decide,func229.trans (congrArg some (by kernel_rfl))⟩
 f23:=⟨ "slices.choosePivotCmpFunc[[]uint64]",by decide,func230.trans (congrArg some (by kernel_rfl))⟩
 f24:=⟨ "slices.reverseRangeCmpFunc[[]uint64]",by decide,func231.trans (congrArg some (by kernel_rfl))⟩
 f25:=⟨ "slices.partialInsertionSortCmpFunc[[]uint64]",by decide,func232.trans (congrArg some (by kernel_rfl))⟩
 f26:=⟨ "slices.partitionEqualCmpFunc[[]uint64]",by decide,func233.trans (congrArg some (by kernel_rfl))⟩
 f27:=⟨ "slices.partitionCmpFunc[[]uint64]",by decide,func234.trans (congrArg some (by kernel_rfl))⟩
 f28:=func235.trans (congrArg some (by kernel_rfl))
 f29:=func236.trans (congrArg some (by kernel_rfl))
 f46:=⟨ "slices.siftDownCmpFunc[[]uint64]",by decide,func257.trans (congrArg some (by kernel_rfl))⟩
 f47:=func258.trans (congrArg some (by kernel_rfl))
 f48:=func259.trans (congrArg some (by kernel_rfl))
 f49:=⟨ "slices.medianAdjacentCmpFunc[[]uint64]",by decide,func260.trans (congrArg some (by kernel_rfl))⟩
 f50:=⟨ "slices.medianCmpFunc[[]uint64]",by decide,func261.trans (congrArg some (by kernel_rfl))⟩
 f57:=⟨ "slices.order2CmpFunc[[]uint64]",by decide,func273.trans (congrArg some (by kernel_rfl))⟩
 t0:=Tryz.underlying0
 a0:=Tryz.isAgg0
 z0:=Tryz.sizeOf0
 v0:=Tryz.zeroValue0
 t3:=Tryz.underlying3
 a3:=Tryz.isAgg3
 z3:=Tryz.sizeOf3
 v3:=Tryz.zeroValue3
 t4:=Tryz.underlying4
 a4:=Tryz.isAgg4
 z4:=Tryz.sizeOf4
 v4:=Tryz.zeroValue4
 t5:=Tryz.underlying5
 a5:=Tryz.isAgg5
 z5:=Tryz.sizeOf5
 v5:=Tryz.zeroValue5
 t9:=Tryz.underlying9
 a9:=Tryz.isAgg9
 z9:=Tryz.sizeOf9
 v9:=Tryz.zeroValue9
 t22:=Tryz.underlying51
 a22:=Tryz.isAgg51
 z22:=Tryz.sizeOf51
 v22:=Tryz.zeroValue51
 a24:=Tryz.isAgg22
 z24:=Tryz.sizeOf22
 t25:=Tryz.underlying49
 a25:=Tryz.isAgg49
 z25:=Tryz.sizeOf49
 v25:=Tryz.zeroValue49
 t39:=Tryz.underlying88
 a39:=Tryz.isAgg88
 z39:=Tryz.sizeOf88
 v39:=Tryz.zeroValue88
 t45:=Tryz.underlying241
 a45:=Tryz.isAgg241
 z45:=Tryz.sizeOf241
 v45:=Tryz.zeroValue241
 t46:=Tryz.underlying242
 a46:=Tryz.isAgg242
 z46:=Tryz.sizeOf242
 v46:=Tryz.zeroValue242
 t50:=Tryz.underlying129
 a50:=Tryz.isAgg129
 z50:=Tryz.sizeOf129
 v50:=Tryz.zeroValue129
 t53:=Tryz.underlying248
 a53:=Tryz.isAgg248
 z53:=Tryz.sizeOf248
 v53:=Tryz.zeroValue248
 t55:=Tryz.underlying56
 a55:=Tryz.isAgg56
 z55:=Tryz.sizeOf56
 v55:=Tryz.zeroValue56
 t66:=Tryz.underlying268
 a66:=Tryz.isAgg268
 z66:=Tryz.sizeOf268
 v66:=Tryz.zeroValue268
 t70:=Tryz.underlying272
 a70:=Tryz.isAgg272
 z70:=Tryz.sizeOf272
 v70:=Tryz.zeroValue272
 t76:=Tryz.underlying280
 a76:=Tryz.isAgg280
 z76:=Tryz.sizeOf280
 v76:=Tryz.zeroValue280
 t77:=Tryz.underlying281
 a77:=Tryz.isAgg281
 z77:=Tryz.sizeOf281
 v77:=Tryz.zeroValue281
def kZ : D->List Int
 | .sl _ xV=>xV.map λe=>PO (hd e)
 | _=>[]
theorem jL (l:List Int):kZ (.sl 1 (rows .u64 l))= l:=Ut l
theorem RJ {l:List (List Int)} {xV:List (List D)} (h:xV.Perm (pI l)):∃ m:List (List Int),xV=pI m/\m.Perm l:=by
 refine⟨xV.map λe=>kZ (hd e),?_,?_⟩
 ·unfold pI;rw [η];conv=>lhs; rw [<- θ xV]
  refine δ λe he=>?_;have:=h.mem_iff.1 he;simp only [pI,ζ] at this;obtain⟨n,_,rfl⟩:=this;show [D.sl 1 (rows .u64 n)] = [D.sl 1 (rows .u64 (kZ (.sl 1 (rows .u64 n))))];rw [jL]
 ·have:=h.map λe=>kZ (hd e)
  have e:(pI l).map (λe=>kZ (hd e))= l:=by
   unfold pI;rw [η];conv=>rhs; rw [<- θ l]
   exact δ λx _=>jL x
  rw [e] at this;exact this
theorem Sg {l:List (List Int)} {i:Nat} (h:i<l.length):kZ (hd ((pI l).getD i []))= l.getD i []:=by rw [nP _ h]; exact jL _
theorem Yp {σ:St} {key:Nat} {l:List (List Int)} (hget:σ.get key=some ⟨1,pI l⟩) (hne:l ≠ []) (hlen:l.length<=1000) :
  xY prog 127 [.yM key 1 l.length,.fn 124 []] σ (.wK []) (σ.set key ⟨1,pI (tK l)⟩):=by
 have ho:tJ prog 127:=⟨_,func127,by kernel_rfl,by kernel_rfl⟩;have ho2:tJ prog 124:=⟨_,func124,by kernel_rfl,by kernel_rfl⟩
 have h:=j9 (P:=prog) (ρ:=b8) UE ho (g:=124) (C:=λd=>∃ l:List Int,d = .sl 1 (rows .u64 l)) (cf:=λx y=>kc (kZ x) (kZ y)) ho2
  (by rintro x y ⟨a,rfl⟩ ⟨b,rfl⟩; rw [jL,jL]; exact cI a b) (by intro x _; rw [bl]; omega) (by intro x y z _ _ _ h1 h2; exact aS h1 h2) (by intro x y z _ _ _ h1 h2; exact jK h1 h2)
  hget (target:=pI (tK l)) (by
   intro e he;have hp:=sj l e he;simp only [pI,ζ] at he;obtain⟨n,hn,rfl⟩:=he;exact⟨_,rfl,by simpa [D.xR] using hp,n,rfl⟩) (by rw [tR]; omega) (by intro c; apply hne; simpa [pI] using c) (by
   intro els' hp hs;obtain⟨m,rfl,hm⟩:=RJ hp;rw [au hm (SR λa b hab hb=>?_)];have:=hs a b hab (by rw [tR]; exact hb);change ¬ kc (kZ _) (kZ _)<0 at this;rw [Sg hb,Sg (show a<m.length by omega)] at this;exact this)
 rw [tR] at h;exact h
theorem Uz {m:List (List Int)} (x:List Int) (hm:fc m) (hl:m.length<=1000):∃ b:Bool,yU prog 123 [.sl 1 (pI m),.sl 1 (rows .u64 x),.fn 124 []] (.wK [.int .i64 (below m x),.bool b]):=by
 refine⟨decide (below m x<m.length)&& decide (kc (m.getD (below m x) []) x=0),?_⟩;refine xY.xN mixed func123 IS (by simp) λhf=>?_;simp only [simprocAttr,-ZA,↓zU,↓zD,zV,zT,zW,tR]
 refine xP (λa:Nat × Nat=>[(10,.int .i64 a.2),(9,.int .i64 a.1),(8,.int .i64 m.length),(2,.fn 124 []),(1,.sl 1 (rows .u64 x)),(0,.sl 1 (pI m))]) (λ_=>⟨0,[]⟩) (λa=>a.1<=a.2/\a.2<=m.length/\(∀ i,i<a.1->kc (m.getD i []) x<0)/\ (∀ i,a.2<=i->i<m.length->¬ kc (m.getD i []) x<0)) (λa=>a.2-a.1) (0,m.length) ⟨Ab _,Aa _,λi hi=>by omega,λi h1 h2=>by omega⟩ ?_ ?_
 ·(refine xT.same ?_; simp [xS,Fr.get])
 intro ⟨lo,hi⟩ ⟨h1,h2,h3,h4⟩;simp only at h1 h2 h3 h4;refine xM mixed ?_
 by_cases h:lo<hi
 ·have hd:((lo:Int)<(hi:Int)):=by omega
  have es:IntKind.i64.wrap ((lo:Int)+ (hi:Int))= ((lo+hi:Nat):Int):=by rw [wrap_i64 (by omega)]; omega
  have ew:IntKind.i64.wrap (((lo+hi)/ 2:Nat):Int)= (((lo+hi)/ 2:Nat):Int):=wrap_i64 (by omega);have hmid:(lo+hi)/ 2<m.length:=by omega
  simp only [simprocAttr,-ZA,↓zU,↓zD,zV,zT,zW,hd,es,WU (show lo+hi<=1000000 by omega),j8 (show lo+hi<=1000000 by omega),ew,tR,nP m hmid]
  (repeat refine sd ?_)
  refine .go (xY.yH (cI (m.getD ((lo+hi)/ 2) []) x) (by simp [D.xR,D.xD])) ?_
  by_cases c:kc (m.getD ((lo+hi)/ 2) []) x<0
  ·simp only [simprocAttr,-ZA,↓zU,↓zD,zV,zT,zW,c];refine⟨((lo+hi)/ 2+1,hi),⟨by show (lo+hi)/ 2+1<=hi; omega,h2,λi hi2=>df hm (show i<=(lo+hi)/ 2 by change i<(lo+hi)/ 2+1 at hi2; omega) hmid c,h4⟩,?_,by show hi-((lo+hi)/ 2+1)<hi-lo; omega⟩
   (refine xT.same ?_; simp only [xS,Fr.get,simprocAttr,-ZA,zS])
   exact wrap_i64 (by omega)
  ·simp only [simprocAttr,-ZA,↓zU,↓zD,zV,zT,zW,c];refine⟨(lo,(lo+hi)/ 2),⟨by show lo<=(lo+hi)/ 2; omega,by show (lo+hi)/ 2<=m.length; omega,h3,λi hi2 hi3 hc=>c (df hm hi2 hi3 hc)⟩,?_,by show (lo+hi)/ 2-lo<hi-lo; omega⟩
   (refine xT.same ?_; simp only [xS,Fr.get,simprocAttr,-ZA,zS])
 ·have hd:¬ ((lo:Int)<(hi:Int)):=by omega
  have e:below m x=lo:=aP (by omega) h3 λa ha hb=>h4 a (by omega) hb;rw [e]
  by_cases hlen:lo<m.length
  ·have hd2:((lo:Int)<(m.length:Int)):=by omega
   simp only [simprocAttr,-ZA,↓zU,↓zD,zV,zT,zW,hd,hd2,tR,nP m hlen]
   (repeat refine sd ?_)
   refine .go (xY.yH (cI (m.getD lo []) x) (by simp [D.xR,D.xD])) ?_;simp only [simprocAttr,-ZA,↓zU,↓zD,zV,zT,zW];exact .drop (by simp) (by simp only [vw,vI,and_true,D.bool.injEq,true_and,ο,List.length_nil,decide_eq_true hlen,Bool.true_and]; rfl)
  ·have hd2:¬ ((lo:Int)<(m.length:Int)):=by omega
   simp only [simprocAttr,-ZA,↓zU,↓zD,zV,zT,zW,hd,hd2];exact .drop (by simp) (by simp only [vw,vI,and_true,D.bool.injEq,true_and,ο,List.length_nil,decide_eq_false hlen,Bool.false_and])
theorem Ox (l:List (List Int)) (i:Nat) (x:List Int):(pI l).set i [.sl 1 (rows .u64 x)]=pI (l.set i x):=by simp [pI,List.map_set]
def YA (l:List (List Int)):List (List D):=pI (dedup l)++ List.replicate (l.length-(dedup l).length) [.xO]
theorem Wu {σ:St} {key:Nat} {l:List (List Int)} (hget:σ.get key=some ⟨1,pI l⟩) (hlen:l.length<=1000) (hne:l ≠ []) :
  xY prog 128 [.yM key 1 l.length,.fn 129 []] σ (.yM key 1 (dedup l).length) (σ.set key ⟨1,YA l⟩):=by
 obtain⟨nx,xZ⟩:=σ;have hpos:0<l.length:=ξ.2 hne;have hg:St.look xZ key=some ⟨1,pI l⟩:=hget
 have whole:dedup l=l->(.yM key 1 (dedup l).length=D.yM key 1 l.length/\(⟨nx,zL xZ key ⟨1,YA l⟩⟩:St)= ⟨nx,xZ⟩):=by
  intro e;refine⟨by rw [e],?_⟩;have:YA l=pI l:=by unfold YA; rw [e]; simp
  rw [this,pA hg]
 refine xY.xN mixed func128 IU (by simp) λhf=>?_
 by_cases h2:l.length<2
 ·have hd:(l.length:Int)<2:=by omega
  simp only [simprocAttr,-ZA,↓zU,↓zD,zV,zT,zW,hd]
  have e:dedup l=l:=by unfold dedup;rw [oU (Aa _) (λi h1 h3=>by omega),κ]
  obtain⟨e1,e2⟩:=whole e;exact .inl ⟨e1,e2⟩
 have hd:¬ (l.length:Int)<2:=by omega
 simp only [simprocAttr,-ZA,↓zU,↓zD,zV,zT,zW,hd]
 refine xP (λk:Nat=>[(5,.int .i64 k),(1,.fn 129 []),(0,.yM key 1 l.length)]) (λ_=>⟨nx,xZ⟩) (λk=>1<=k/\k<=l.length/\∀ i,0<i->i<k->l.getD i []≠l.getD (i-1) []) (λk=>l.length-k) 1 ⟨Aa _,by omega,λi h1 h2=>by omega⟩ ?_ ?_
 ·(refine xT.same ?_; simp [xS,Fr.get])
 intro i0 ⟨hi1,hi2,hi3⟩;refine xM mixed ?_;by_cases h:i0<l.length
 case neg=>
  have hd:¬ ((i0:Int)<(l.length:Int)):=by omega
  have e:dedup l=l:=by unfold dedup;rw [oU (Aa _) (λi h1 h3=>hi3 i h1 (by omega)),κ]
  obtain⟨e1,e2⟩:=whole e;simp only [simprocAttr,-ZA,↓zU,↓zD,zV,zT,zW,hd];exact .inl ⟨e1,e2⟩
 have hd:((i0:Int)<(l.length:Int)):=by omega
 have em:IntKind.i64.wrap ((i0:Int)-1)= ((i0-1:Nat):Int):=by rw [wrap_i64 (by omega)]; omega
 simp only [simprocAttr,-ZA,↓zU,↓zD,zV,zT,zW,hd,hg,nP l h,em,tR,nP l (show i0-1<l.length by omega)]
 (repeat refine sd ?_)
 refine .go (xY.yH (Si (l.getD i0 []) (l.getD (i0-1) [])) (by simp [D.xR,D.xD])) ?_;by_cases hq:l.getD i0 []=l.getD (i0-1) []
 case neg=>
  simp only [simprocAttr,-ZA,↓zU,↓zD,zV,zT,zW,decide_eq_false hq]
  refine⟨i0+1,⟨by omega,by omega,λi h1 h3=>?_⟩,?_,by omega⟩
  ·by_cases e:i=i0
   ·rw [e]; exact hq
   ·exact hi3 i h1 (by omega)
  (refine xT.same ?_; simp only [xS,Fr.get,simprocAttr,-ZA,zS])
  exact wrap_i64 (by omega)
 simp only [simprocAttr,-ZA,↓zU,↓zD,zV,zT,zW,decide_eq_true hq];have ei:¬ (i0:Int)= 0:=by omega
 have ei2:¬ (i0:Int)= (l.length:Int):=by omega
 refine⟨i0,l.length,rfl,rfl,by omega,by omega,by omega,?_⟩;simp only [Aj,if_neg ei,if_neg ei2];have d1:zF l (i0+1)= l.take i0:=by rw [zF,if_pos ⟨by omega,hq⟩,oU (by omega) hi3]
 refine xP (λa:Nat × List (List Int)=>[(7,.int .i64 a.1),(6,.sub key 1 i0 (l.length-i0)),(5,.int .i64 (zF l (i0+a.1)).length),(1,.fn 129 []),(0,.yM key 1 l.length)]) (λa=>⟨nx,zL xZ key ⟨1,pI a.2⟩⟩)
  (λa=>1<=a.1/\i0+a.1<=l.length/\a.2.length=l.length/\(zF l (i0+a.1)).length<i0+a.1/\a.2.take (zF l (i0+a.1)).length=zF l (i0+a.1)/\ ∀ j,i0+a.1-1<=j->a.2.getD j []=l.getD j []) (λa=>l.length-a.1) (1,l)
  ⟨Aa _,by omega,rfl,by rw [d1,μ]; omega,by rw [d1,μ,Nat.min_eq_left (by omega)],λj _=>rfl⟩ ?_ ?_
 ·rw [pA hg]
  (refine xT.same ?_; simp [xS,Fr.get,d1])
  omega
 intro ⟨q,o⟩ ⟨q1,q2,q3,q4,q5,q6⟩;simp only at q1 q2 q3 q4 q5 q6;have hlk:∀ ob:Ob,St.look (zL xZ key ob) key=some ob:=λob=>qM hg;refine xM mixed ?_
 by_cases hp:i0+q<l.length
 ·have hd3:((q:Int)<((l.length-i0:Nat):Int)):=by omega
  have eq1:IntKind.i64.wrap ((q:Int)-1)= ((q-1:Nat):Int):=by rw [wrap_i64 (by omega)]; omega
  simp only [simprocAttr,-ZA,↓zU,↓zD,zV,zT,zW,hd3,hlk,eq1,tR,nP o (show i0+q<o.length by omega),nP o (show i0+(q-1)<o.length by omega)]
  (repeat refine sd ?_)
  refine .go (xY.yH (Si (o.getD (i0+q) []) (o.getD (i0+(q-1)) [])) (by simp [D.xR,D.xD])) ?_;have a1:o.getD (i0+q) []=l.getD (i0+q) []:=q6 _ (by omega);have a2:o.getD (i0+(q-1)) []=l.getD (i0+q-1) []:=by rw [q6 _ (by omega)]; congr 1; omega
  rw [a1,a2]
  by_cases hq2:l.getD (i0+q) []=l.getD (i0+q-1) []
  ·have dd:zF l (i0+(q+1))= zF l (i0+q):=by show zF l ((i0+q)+ 1)= _;rw [zF,if_pos ⟨by omega,hq2⟩]
   simp only [simprocAttr,-ZA,↓zU,↓zD,zV,zT,zW,decide_eq_true hq2];refine⟨(q+1,o),⟨by show 1<=q+1; omega,by show i0+(q+1)<=l.length; omega,q3,by show (zF l (i0+(q+1))).length<i0+(q+1); rw [dd]; omega,by show o.take (zF l (i0+(q+1))).length=zF l (i0+(q+1)); rw [dd,q5],λj hj=>q6 j (by change i0+(q+1)-1<=j at hj; omega)⟩,?_,by show l.length-(q+1)<l.length-q; omega⟩
   (refine xT.same ?_; simp only [xS,Fr.get,simprocAttr,-ZA,zS,dd])
   exact wrap_i64 (by omega)
  ·have dd:zF l (i0+(q+1))= zF l (i0+q)++ [l.getD (i0+q) []]:=by show zF l ((i0+q)+ 1)= _;rw [zF,if_neg (λc=>hq2 c.2)]
   have dl:(zF l (i0+(q+1))).length=(zF l (i0+q)).length+1:=by rw [dd,ε]; rfl
   simp only [simprocAttr,-ZA,↓zU,↓zD,zV,zT,zW,decide_eq_false hq2,hlk,tR,nP o (show i0+q<o.length by omega),a1]
   (repeat refine sd ?_)
   have c1:(zF l (i0+q)).length<o.length:=by omega
   have eset:(pI o).set (zF l (i0+q)).length (((pI o).getD (zF l (i0+q)).length []).set 0 (D.sl 1 (rows .u64 (l.getD (i0+q) []))))= pI (o.set (zF l (i0+q)).length (l.getD (i0+q) [])):=by rw [nP o c1];exact Ox _ _ _
   refine⟨(q+1,o.set (zF l (i0+q)).length (l.getD (i0+q) [])),⟨by show 1<=q+1; omega,by show i0+(q+1)<=l.length; omega,by show (o.set _ _).length=_; rw [ν]; exact q3,by show (zF l (i0+(q+1))).length<i0+(q+1); omega,?_,λj hj=>?_⟩,?_,by show l.length-(q+1)<l.length-q; omega⟩
   ·show (o.set (zF l (i0+q)).length (l.getD (i0+q) [])).take (zF l (i0+(q+1))).length=_;rw [dl,zA (d:=[]) (by rw [ν]; exact c1),eP,if_pos ⟨rfl,c1⟩,dd,υ (Aa _),q5]
   ·change i0+(q+1)-1<=j at hj;show (o.set (zF l (i0+q)).length (l.getD (i0+q) [])).getD j []=_;rw [eP,if_neg (by omega)];exact q6 j (by omega)
   ·simp only [pB,eset]
    (refine xT.same ?_; simp only [xS,Fr.get,simprocAttr,-ZA,zS,dl])
    exact⟨wrap_i64 (by omega),wrap_i64 (by omega)⟩
 ·have hd3:¬ ((q:Int)<((l.length-i0:Nat):Int)):=by omega
  have ed:zF l (i0+q)= dedup l:=by unfold dedup; rw [show i0+q=l.length by omega]
  have c0:0<(dedup l).length:=by have:=qp l (l.length-1);rw [show l.length-1+1=l.length by omega] at this;exact this
  rw [ed] at q4 q5;simp only [simprocAttr,-ZA,↓zU,↓zD,zV,zT,zW,hd3,ed];refine⟨(dedup l).length,l.length,rfl,rfl,by omega,by omega,by omega,?_⟩;rw [if_neg (show ¬ ((dedup l).length:Int)= 0 by omega),if_neg (show ¬ ((dedup l).length:Int)= (l.length:Int) by omega)];simp only [Aj,hlk,tR,true_and];refine⟨by omega,by omega,?_⟩;refine⟨0,(dedup l).length,rfl,rfl,by omega,by omega,by omega,?_⟩;rw [if_pos rfl];refine .inl ⟨by rw [Aj],?_⟩;have e2:(pI o).take (dedup l).length=pI (dedup l):=by rw [RM,q5]
  have e3:(pI o).drop ((dedup l).length+(l.length-(dedup l).length))= []:=γ (by rw [tR]; omega)
  have e4:YA l=(pI o).take (dedup l).length++(List.replicate (l.length-(dedup l).length) [D.xO]++(pI o).drop ((dedup l).length+(l.length-(dedup l).length))):=by rw [e2,e3,List.append_nil]; rfl
  rw [e4];simp only [pB]
theorem vv (l:List (BitVec 64)):us l=rows .u64 (l.map ui):=by simp [us,rows]
end Go.Pd
