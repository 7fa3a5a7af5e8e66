/- Part SC. -/
import Derived.Test.YtndfaefmmcoapaaGreatUdS1
import Derived.Test.YtndfaefmmcoapaaGreatUdX6
import Derived.Shelf.SlSortCmp.NoneTotal
set_option linter.unusedSectionVars false
set_option linter.unusedVariables false
set_option linter.unusedSimpArgs false
set_option linter.defProp false
set_option maxRecDepth 20000
set_option maxHeartbeats 1000000
namespace Go.Pd
open Go Go.Proofs
open BitVec renaming isValue -> ZA
open Ru
namespace Ru
def nK : List Int->List Int->Int
 | [],[]=>0
 | [],_ :: _=>-1
 | _ :: _,[]=>1
 | x :: a,y :: b=>if x<y then -1 else if y<x then 1 else nK a b
theorem aWl : ∀ a:List Int,nK a a=0
 | []=>rfl
 | x :: a=>by unfold nK; rw [if_neg (by omega),if_neg (by omega)]; exact aWl a
theorem aV : ∀ a b:List Int,nK a b = -1\/nK a b=0\/nK a b=1
 | [],[]=>.inr (.inl rfl)
 | [],_ :: _=>.inl rfl
 | _ :: _,[]=>.inr (.inr rfl)
 | x :: a,y :: b=>by
  unfold nK
  split
  ·exact .inl rfl
  ·split
   ·exact .inr (.inr rfl)
   ·exact aV a b
theorem aWk : ∀ {a b:List Int},nK a b=0->a=b
 | [],[],_=>rfl
 | [],_ :: _,h=>by simp [nK] at h
 | _ :: _,[],h=>by simp [nK] at h
 | x :: a,y :: b,h=>by
  unfold nK at h
  split at h
  ·omega
  ·split at h
   ·omega
   ·rw [aWk h,show x=y by omega]
theorem aWm : ∀ a b:List Int,nK b a =-nK a b
 | [],[]=>rfl
 | [],_ :: _=>rfl
 | _ :: _,[]=>rfl
 | x :: a,y :: b=>by
  unfold nK
  by_cases h1:x<y
  ·rw [if_pos h1,if_neg (by omega),if_pos h1]; rfl
  ·by_cases h2:y<x
   ·rw [if_pos h2,if_neg h1,if_pos h2]
   ·rw [if_neg h2,if_neg h1,if_neg h1,if_neg h2]; exact aWm a b
theorem aW : ∀ {a b c:List Int},nK a b<0->nK b c<0->nK a c<0
 | [],[],_,h,_=>by simp [nK] at h
 | [],_ :: _,[],_,h=>by simp [nK] at h
 | [],_ :: _,_ :: _,_,_=>by simp [nK]
 | _ :: _,[],_,h,_=>by simp [nK] at h
 | _ :: _,_ :: _,[],_,h=>by simp [nK] at h
 | x :: a,y :: b,z :: c,h1,h2=>by
  unfold nK at h1 h2 ⊢
  by_cases hxy:x<y
  ·by_cases hyz:z<y
   ·rw [if_neg (by omega),if_pos hyz] at h2; omega
   ·rw [if_pos (by omega)]; omega
  ·rw [if_neg hxy] at h1
   by_cases hyx:y<x
   ·rw [if_pos hyx] at h1; omega
   ·rw [if_neg hyx] at h1
    by_cases hyz:y<z
    ·rw [if_pos (by omega)]; omega
    ·rw [if_neg hyz] at h2
     by_cases hzy:z<y
     ·rw [if_pos hzy] at h2; omega
     ·rw [if_neg hzy] at h2;rw [if_neg (by omega),if_neg (by omega)];exact aW h1 h2
theorem aF8 (b:List Int):nK [] b=if b.length=0 then 0 else -1:=by cases b <;> rfl
def kc (a b:List Int):Int:=if a.length<b.length then -1 else if b.length<a.length then 1 else nK a b
theorem aM9 (a:List Int):kc a a=0:=by unfold kc; rw [if_neg (by omega),if_neg (by omega)]; exact aWl a
theorem aR2 (a b:List Int):kc a b = -1\/kc a b=0\/kc a b=1:=by
 have:=aV a b
 unfold kc; split
 ·exact .inl rfl
 ·split
  ·exact .inr (.inr rfl)
  ·exact this
theorem aXj {a b:List Int} (h:kc a b=0):a=b:=by
 unfold kc at h
 split at h
 ·omega
 ·split at h
  ·omega
  ·exact aWk h
theorem pB (a b:List Int):kc b a =-kc a b:=by
 have:=aWm a b;unfold kc
 by_cases h1:a.length<b.length
 ·rw [if_neg (by omega),if_pos h1,if_pos h1]; rfl
 ·by_cases h2:b.length<a.length
  ·rw [if_pos h2,if_neg h1,if_pos h2]
  ·rw [if_neg h2,if_neg h1,if_neg h1,if_neg h2]; exact this
theorem aYa {a b c:List Int} (h1:kc a b<0) (h2:kc b c<0):kc a c<0:=by
 have:=@aW a b c;unfold kc at h1 h2 ⊢
 by_cases x1:a.length<c.length
 ·rw [if_pos x1]; omega
 rw [if_neg x1]
 by_cases y1:a.length<b.length
 ·rw [if_neg (by omega),if_pos (by omega)] at h2; omega
 ·rw [if_neg y1] at h1
  by_cases y2:b.length<a.length
  ·rw [if_pos y2] at h1; omega
  ·rw [if_neg y2] at h1;rw [if_neg (by omega)] at h2
   by_cases y3:c.length<b.length
   ·rw [if_pos y3] at h2; omega
   ·rw [if_neg y3] at h2;rw [if_neg (by omega)];exact this h1 h2
theorem kZ {a b c:List Int} (h1:¬ kc a b<0) (h2:¬ kc b c<0):¬ kc a c<0:=by
 intro h
 by_cases e1:kc a b=0
 ·rw [aXj e1] at h; exact h2 h
 ·by_cases e2:kc b c=0
  ·rw [<- aXj e2] at h; exact h1 h
  ·have r1:=aR2 a b;have r2:=aR2 b c;have a1:=pB a b;have a2:=pB b c;have a3:=pB a c;have:=aYa (a:=c) (b:=b) (c:=a) (by omega) (by omega);omega
end Ru
theorem bZg (a:Int):yB Tryz.prog 225 [.int .i64 a] (.bool false):=by refine xY.xR mixed Tryz.func225 bT2 (by simp) fun hf=>?_;simp only [simprocAttr,-ZA,↓zU,↓zD,zV,zT,zW];exact .same
theorem bU0 (a b:Int):yB Tryz.prog 185 [.int .i64 a,.int .i64 b] (.int .i64 (if a<b then -1 else if b<a then 1 else 0)):=by
 refine xY.xR mixed Tryz.func185 bSp (by simp) fun hf=>?_;simp only [simprocAttr,-ZA,↓zU,↓zD,zV,zT,zW];refine .go (cq (bZg a)) ?_;simp only [simprocAttr,-ZA,↓zU,↓zD,zV,zT,zW];refine .go (cq (bZg b)) ?_
 by_cases h1:a<b
 ·simp only [simprocAttr,-ZA,↓zU,↓zD,zV,zT,zW,h1];exact .same
 ·by_cases h2:b<a
  ·simp only [simprocAttr,-ZA,↓zU,↓zD,zV,zT,zW,h1,h2];exact .same
  ·simp only [simprocAttr,-ZA,↓zU,↓zD,zV,zT,zW,h1,h2];exact .same
theorem aP8 (x:Int) (a:List Int):nK (x :: a) []=1:=rfl
theorem aJl (x y:Int) (a b:List Int):nK (x :: a) (y :: b)= if x<y then -1 else if y<x then 1 else nK a b:=rfl
theorem bXi (a b:List Int):yB Tryz.prog 87 [.sl 1 (rows .i64 a),.sl 1 (rows .i64 b)] (.bool (decide (a=b))):=by
 refine xY.xR mixed Tryz.func87 k87 (by simp) fun hf=>?_;simp only [D.rG,D.fact,yW] at hf;have hlen:=hf.1.1;by_cases h1:a.length=b.length
 case neg=>
  have h1':((a.length:Int) != (b.length:Int))= true:=by simp; omega
  simp only [simprocAttr,-ZA,↓zU,↓zD,zV,zT,zW,h1'];exact .drop (by simp) (by simp only [vw,D.bool.injEq]; symm; apply decide_eq_false; rintro rfl; exact h1 rfl)
 have h1':((a.length:Int) != (b.length:Int))= false:=by simp; omega
 simp only [simprocAttr,-ZA,↓zU,↓zD,zV,zT,zW,h1']
 refine xQ (fun k:Nat=>[(13,.int .i64 k),(12,.int .i64 a.length),(1,.sl 1 (rows .i64 b)),(0,.sl 1 (rows .i64 a))]) (fun _=>⟨0,[]⟩) (fun k=>k<=a.length/\∀ i,i<k->a.getD i 0=b.getD i 0) (fun k=>a.length-k) 0 ⟨Nat.zero_le _,fun i hi=>by omega⟩ ?_ ?_
 ·(refine xM.same ?_; simp [xP,Fr.get])
 intro k ⟨hk,hi⟩;refine xN mixed ?_
 by_cases h:k<a.length
 ·have hd:((k:Int)<(a.length:Int)):=by omega
  by_cases hb:a.getD k 0=b.getD k 0
  ·have hb1:(a.getD k 0 != b.getD k 0)= false:=by simp only [hb,bne_self_eq_false]
   simp only [simprocAttr,-ZA,↓zU,↓zD,zV,zT,zW,hd,yX _ _ h,yX .i64 b (show k<b.length by omega),hb1]
   (repeat refine sd ?_)
   refine⟨k+1,⟨by omega,fun i hi2=>?_⟩,?_,by omega⟩
   ·by_cases ei:i=k
    ·rw [ei,hb]
    ·exact hi i (by omega)
   (refine xM.same ?_; simp only [xP,Fr.get,simprocAttr,-ZA,zS])
   exact wrap_i64 (by omega)
  ·have hb1:(a.getD k 0 != b.getD k 0)= true:=bne_iff_ne.2 hb;simp only [simprocAttr,-ZA,↓zU,↓zD,zV,zT,zW,hd,yX _ _ h,yX .i64 b (show k<b.length by omega),hb1]
   (repeat refine sd ?_)
   exact .drop (by simp) (by simp only [vw,D.bool.injEq]; symm; apply decide_eq_false; rintro rfl; exact hb rfl)
 ·have hd:¬ ((k:Int)<(a.length:Int)):=by omega
  have hk':k=a.length:=by omega
  subst hk';simp only [simprocAttr,-ZA,↓zU,↓zD,zV,zT,zW,hd];refine .drop (by simp) ?_;simp only [vw,D.bool.injEq]; symm; apply decide_eq_true;refine List.ext_getElem h1 fun i h2 h3=>?_;have:=hi i h2;simpa [List.getD,h2,h3] using this
theorem bTq (x y:Int):yB Tryz.prog 184 [.sl 1 (rows .i64 [x,y])] (.int .i64 (if x≠0 then x else y)):=by
 refine xY.xR mixed Tryz.func184 bSq (by simp) fun hf=>?_;simp only [simprocAttr,-ZA,↓zU,↓zD,zV,zT,zW]
 refine xQ (fun k:Nat=>[(8,.int .i64 k),(7,.int .i64 2),(6,.sl 1 (rows .i64 [x,y])),(3,.int .i64 0)]) (fun _=>⟨0,[]⟩) (fun k=>k<=2/\(0<k->x=0)/\ (1<k->y=0)) (fun k=>2-k) 0 ⟨by omega,by omega,by omega⟩ ?_ ?_
 ·(refine xM.same ?_; simp [xP,Fr.get,rows])
 intro k ⟨hk,h0,h1⟩;refine xN mixed ?_
 obtain rfl | rfl | rfl:k=0\/k=1\/k=2:=by omega
 ·by_cases e:x=0
  ·have e':(x != 0)= false:=by simpa using e
   simp only [simprocAttr,-ZA,↓zU,↓zD,zV,zT,zW,e']
   (repeat refine sd ?_)
   exact⟨1,⟨by omega,fun _=>e,by omega⟩,by(refine xM.same ?_; simp only [xP,Fr.get,simprocAttr,-ZA,zS]); rfl,by omega⟩
  ·have e':(x != 0)= true:=by simpa using e
   simp only [simprocAttr,-ZA,↓zU,↓zD,zV,zT,zW,e']
   (repeat refine sd ?_)
   rw [if_pos e];exact .same
 ·have e0:=h0 (by omega);have c1:((1:Nat):Int)= 1:=rfl
  by_cases e:y=0
  ·have e':(y != 0)= false:=by simpa using e
   simp only [simprocAttr,-ZA,↓zU,↓zD,zV,zT,zW,e',c1]
   (repeat refine sd ?_)
   exact⟨2,⟨by omega,fun _=>e0,fun _=>e⟩,by(refine xM.same ?_; simp only [xP,Fr.get,simprocAttr,-ZA,zS]); rfl,by omega⟩
  ·have e':(y != 0)= true:=by simpa using e
   simp only [simprocAttr,-ZA,↓zU,↓zD,zV,zT,zW,e',c1]
   (repeat refine sd ?_)
   rw [if_neg (by omega)];exact .same
 ·have e0:=h0 (by omega);have e1:=h1 (by omega);have c1:((2:Nat):Int)= 2:=rfl;simp only [simprocAttr,-ZA,↓zU,↓zD,zV,zT,zW,c1];rw [if_neg (by omega),e1];exact .same
end Go.Pd

/- Part X7. -/
namespace Go.Pd
open Go Go.Proofs Go.Shelf Go.Sort
variable [sC]
def vX (M:Nat->Prop) (w:World) (C:D->Prop):Type:={ p:Value × D // RP M w p.1 p.2/\p.1.oneCell'=true/\C p.2 }
theorem cT {α:Type} [Inhabited α] (enc:α->Value) (w:World) (blk off m:Nat) (d:Array α) (os:Array Obj) {b:Nat} (hb:b<w.heap.size) (hn:b≠blk):(sortWorld enc w blk off m d os).heap[b]?=w.heap[b]?:=by show (((Sort.ahead w m).heap.modify blk (onCells (putCells enc off d)))++ os)[b]?=_;rw [Array.getElem?_append_left (by simpa using hb),Array.getElem?_modify,if_neg (fun e=>hn e.symm)];rfl
theorem cH {α:Type} [Inhabited α] (enc:α->Value) (w:World) (blk off m:Nat) (d:Array α) (os:Array Obj):w.heap.size<=(sortWorld enc w blk off m d os).heap.size:=by show w.heap.size<=(((Sort.ahead w m).heap.modify blk (onCells (putCells enc off d)))++ os).size;simp [Sort.ahead]
theorem aVh {α:Type} [Inhabited α] (enc:α->Value) (w:World) (blk off m:Nat) (d:Array α) (os:Array Obj) {cur:Array Value} {e:TypeId} {fr:Nat × Nat} (hc:w.heap[blk]?=some (Obj.cells cur e fr)) :
  sortWorld enc w blk off m d os=grow ((w.setRow blk (putCells enc off d cur)).drewN m) os:=by
 unfold sortWorld;congr 1;unfold putRow mapBlock Sort.ahead World.drewN World.setRow;congr 1;apply Array.ext_getElem?;intro k;simp only [Array.getElem?_modify]
 by_cases hk:blk=k
 ·subst hk;simp only [if_true,hc,Option.map_some,onCells]
 ·simp [hk]
theorem aOa {w w':World} (h:Kept w w' fun _=>False):∃ q os,w'=grow (w.drewN q) os:=by
 refine⟨w'.drawn-w.drawn,w'.heap.extract w.heap.size w'.heap.size,?_⟩;have hd:=h.drawn;have hs:=h.size;obtain⟨heap,tape,drawn,os,output⟩:=w;obtain⟨heap',tape',drawn',os',output'⟩:=w';have h1:=h.os;have h2:=h.tape;have h3:=h.output;have h4:=h.block;simp only at h1 h2 h3 h4 hd hs;subst h1; subst h2; subst h3;unfold grow World.drewN;simp only [World.mk.injEq,and_true,true_and];refine⟨?_,by omega⟩;apply Array.ext_getElem?;intro i
 by_cases hi:i<heap.size
 ·rw [Array.getElem?_append_left hi,h4 i hi id]
 ·rw [Array.getElem?_append_right (by omega),Array.getElem?_extract]
  by_cases h2:i<heap'.size
  ·rw [if_pos (by omega)];congr 1; omega
  ·rw [if_neg (by omega)];exact Array.getElem?_eq_none (by omega)
theorem aJp {w:World} (q:Nat) (os:Array Obj):Kept w (grow (w.drewN q) os) fun _=>False:=by
 refine⟨rfl,rfl,rfl,by simp [World.drewN],fun b hb _=>?_,fun b cur e h=>⟨cur,?_,rfl⟩,by show w.drawn<=w.drawn+q; omega⟩
 ·show (w.heap++os)[b]?=_;rw [Array.getElem?_append_left hb]
 ·have hb:b<w.heap.size:=(Array.getElem?_eq_some_iff.1 h).1;show (w.heap++os)[b]?=_;rw [Array.getElem?_append_left hb];exact h
def hd (e:List D):D:=e.getD 0 .top
def aLu (cf:D->D->Int) (els:List (List D)):Prop:=∀ i j,i<j->j<els.length->¬ cf (hd (els.getD j [])) (hd (els.getD i []))<0
def vX.enc {M:Nat->Prop} {w:World} {C:D->Prop} (a:vX M w C):Value:=a.1.1
def vX.dat {M:Nat->Prop} {w:World} {C:D->Prop} (a:vX M w C):D:=a.1.2
def vX.cf {M:Nat->Prop} {w:World} {C:D->Prop} (cf:D->D->Int) (a b:vX M w C):Int:=cf a.dat b.dat
theorem aOx {α:Type} [Inhabited α] {n:Nat} {p:Nat->α->Prop} (h:∀ i,i<n->∃ a,p i a):∃ d:Array α,d.size=n/\∀ i,i<n->p i d[i]!:=by obtain⟨f,hf⟩:=Deep.choose_lt h;refine⟨((List.range n).map f).toArray,by simp,fun i hi=>?_⟩;rw [getElem!_pos _ i (by simpa using hi)];simpa using hf i hi
theorem dB {α:Type} (a:Array α):a.extract 0 a.size=a:=by simp
theorem aKf {P:Program} {g:FuncId} {C:D->Prop} {cf:D->D->Int} (hcmp:∀ x y,C x->C y->yB P g [x,y] (.int .i64 (cf x y))) {M0:Nat->Prop} {w:World} {σ:St} {ι:Nat->Nat} (hS:vQ M0 w σ ι) {key:Nat} {ob:Ob} (hget:σ.get key=some ob) (size:Nat) [Inhabited (vX (Mof M0 ι σ) w C)] :
  CmpLays1 P g #[] (vX.enc (M:=Mof M0 ι σ) (w:=w) (C:=C)) (vX.cf cf) (ι key) 0 size w:=by
 intro m os dk hdk x y;have hne:∀ b,¬ Mof M0 ι σ b->b≠ι key:=fun b hb e=>hb (.inr ⟨key,ob,hget,e.symm⟩)
 have hM:∀ b,Mof (Mof M0 ι σ) ι St0 b->Mof M0 ι σ b:=by
  rintro b (h | ⟨k,o,hk,_⟩)
  ·exact h
  ·cases hk
 have hsz:=cH vX.enc w (ι key) 0 m dk os;have hblock:∀ b,b<w.heap.size->¬ Mof M0 ι σ b->(sortWorld vX.enc w (ι key) 0 m dk os).heap[b]?=w.heap[b]?:=fun b hb hn=>cT vX.enc w (ι key) 0 m dk os hb (hne b hn)
 have S1:vQ (Mof M0 ι σ) (sortWorld vX.enc w (ι key) 0 m dk os) St0 ι:=⟨fun b hb=>Nat.lt_of_lt_of_le (Mof.lt hS hb) hsz,(fun k o hk=>by cases hk),(fun k k' o o' hk=>by cases hk),(fun k o hk=>by cases hk),hS.kB.zI hsz hblock fun b _ hb=>hM b hb⟩
 have zI:∀ z:vX (Mof M0 ι σ) w C,RP (Mof (Mof M0 ι σ) ι St0) (sortWorld vX.enc w (ι key) 0 m dk os) z.enc z.dat:=fun z=>z.2.1.zI hblock fun b _ hb=>hM b hb
 refine((hcmp x.dat y.dat x.2.2.2 y.2.2.2).run _ _ ι (#[x.enc,y.enc] ++ #[]) S1 rfl fun j hj=>?_).mono fun e w' hh=>?_
 ·match j,hj with
  | 0,_=>exact .pure (zI x)
  | 1,_=>exact .pure (zI y)
 ·obtain⟨v,ι',rfl,k1,k2,k3,k4,k5,k6⟩:=hh;have K0:Kept (sortWorld vX.enc w (ι key) 0 m dk os) w' fun _=>False:=k1.mono fun b _ ⟨k,o,hk,_⟩=>by cases hk
  refine⟨?_,aOa K0⟩;rw [k6.yJ.1];rfl
set_option maxHeartbeats 1000000 in
theorem aGa {P:Program} {ρ:Ren} (L:SlLaysF.n6 P ρ) (hord:tU P (ρ.f 6)) {g:FuncId} {C:D->Prop} {cf:D->D->Int}
  (hg:tU P g) (hcmp:∀ x y,C x->C y->yB P g [x,y] (.int .i64 (cf x y)))
  (hirr:∀ x,C x->¬ cf x x<0) (htr:∀ x y z,C x->C y->C z->cf x y<0->cf y z<0->cf x z<0) (hntr:∀ x y z,C x->C y->C z->¬ cf x y<0->¬ cf y z<0->¬ cf x z<0)
  {σ:St} {key:Nat} {els target:List (List D)} (hget:σ.get key=some ⟨1,els⟩) (hels:∀ e ∈ els,∃ d:D,e = [d]/\d.xL=true/\C d) (hlen:els.length<4611686018427387904) (hne:els ≠ [])
  (hT:∀ els',els'.Perm els->aLu cf els'->els'=target) :
  xY P (ρ.f 6) [.osl key 1 els.length,.fn g []] σ (.tup []) (σ.set key ⟨1,target⟩):=by
 refine⟨hord,fun M0 w ι vals hS hl hv=>?_⟩;have h0:=hv 0 (by simp);have h1:=hv 1 (by simp);simp only [List.getD_cons_zero,List.getD_cons_succ] at h0 h1;obtain⟨cap,cur0,e0,e1,kk,a1,a2,a3,a4⟩:=h0.uL;obtain⟨cb,f1,f2,f3⟩:=h1.gB;have hcb:cb = #[]:=Array.eq_empty_of_size_eq_zero (by simpa using f2);subst hcb
 have hvals:vals = #[.slice (some ⟨ι key,0,none⟩) els.length cap,.func (.func g) #[] #[]]:=by
  obtain⟨l⟩:=vals
  match l,hl with
  | [x,y],_=> simp at e1 f1;rw [e1,f1]
 subst hvals;clear h0 h1 hv e1 f1 f2 f3 hl;have hk:=(hS.holds key _ hget).1;obtain⟨cur,e,c1,c2,c3,c4⟩:=yT.cells (hS.holds key _ hget).2 (Nat.lt_succ_self 0);simp only [Nat.mul_one] at c3
 have cell:∀ i,i<els.length->∃ a:vX (Mof M0 ι σ) w C,a.enc=cur.getD i undef/\els.getD i [] = [a.dat]:=by
  intro i hi;have hm:els.getD i [] ∈ els:=by simp [List.getD,hi]
  obtain⟨d,hd,hp,hc⟩:=hels _ hm;have h:=c4 i hi 0 (Nat.lt_succ_self 0);simp only [Nat.mul_one,Nat.add_zero] at h;rw [hd] at h;exact⟨⟨(cur.getD i undef,d),h.2.aNc hp,h.1,hc⟩,rfl,hd⟩
 have hpos:0<els.length:=List.length_pos_iff.2 hne;obtain⟨a0,_⟩:=cell 0 hpos
 haveI:Inhabited (vX (Mof M0 ι σ) w C):=⟨a0⟩
 obtain⟨d,hds,hdi⟩:=aOx cell
 have hO:SWO (ltOf (vX.cf (M:=Mof M0 ι σ) (w:=w) (C:=C) cf)):=by
  exact⟨fun x=>decide_eq_false (hirr x.dat x.2.2.2),fun x y z h1 h2=>decide_eq_true (htr x.dat y.dat z.dat x.2.2.2 y.2.2.2 z.2.2.2 (of_decide_eq_true h1) (of_decide_eq_true h2)),
   fun x y z h1 h2=>decide_eq_false (hntr x.dat y.dat z.dat x.2.2.2 y.2.2.2 z.2.2.2 (of_decide_eq_false h1) (of_decide_eq_false h2))⟩
 have hH:Holds vX.enc w (ι key) 0 d:=by
  intro j hj;have hj':j<els.length:=by omega
  have hjc:j<cur.size:=by omega
  refine⟨?_,?_⟩
  ·rw [(hdi j hj').1];simp [World.cell?,c1,Array.getD,hjc]
  ·simp [World.frozen?,c1]
 have hcall:=Any.slices_SortFunc L (vX.enc (M:=Mof M0 ι σ) (w:=w) (C:=C)) (fun x=>x.2.2.1) (vX.cf cf) hO g #[] (ι key) 0 cap d w (fun args w=>rR hg args w) (aKf hcmp hS hget d.size) hH (Array.getElem?_eq_some_iff.1 c1).1 (by omega);rw [hds] at hcall;refine hcall.mono fun e' w' hh=>?_;obtain⟨rfl,d',n,os,hp,hs,rfl⟩:=hh;rw [<- hds] at hp hs;have hsz:d'.size=d.size:=hp.1
 have e1:d.toList.map (fun a=>[a.dat])= els:=by refine List.ext_getElem (by simpa using hds) fun i h1 h2=>?_;have:=(hdi i h2).2;rw [getElem!_pos d i (by omega)] at this;simp only [List.getElem_map,Array.getElem_toList];simp only [List.getD,List.getElem?_eq_getElem h2,Option.getD_some] at this;exact this.symm
 have hperm:(d'.toList.map fun a=>[a.dat]).Perm els:=by
  rw [<- e1];have:=hp.2.2;rw [<- hsz] at this;conv at this=>lhs; rw [dB d']
  rw [hsz,dB d] at this;exact this.map _
 have hgd:∀ i,i<d'.size->hd ((d'.toList.map fun a=>[a.dat]).getD i [])= (d'[i]!).dat:=by intro i hi;rw [getElem!_pos d' i hi];simp [hd,List.getD,hi]
 have hsort:aLu cf (d'.toList.map fun a=>[a.dat]):=by
  intro i j hij hj;have hj':j<d'.size:=by simpa using hj
  rw [hgd j hj',hgd i (by omega)];have:=hs i j (Nat.zero_le _) hij (by omega);exact of_decide_eq_false this
 have htarget:=hT _ hperm hsort;have htl:target.length=els.length:=by rw [<- htarget]; exact hperm.length_eq
 rw [aVh _ _ _ _ _ _ _ c1];have hcs:(putCells vX.enc 0 d' cur).size=cur.size:=by simp [putCells]
 obtain⟨S2,K2⟩:=hS.set (ob':=⟨1,target⟩) hget c1 hcs (Nat.lt_succ_self 0) (by simp only [Nat.mul_one]; omega) ⟨fun el he=>by
   rw [<- htarget] at he;simp only [List.mem_map] at he;obtain⟨a,_,rfl⟩:=he;rfl,fun i hi j hj=>by
   have hj0:j=0:=by simp only at hj; omega
   subst hj0;simp only [Nat.mul_one,Nat.add_zero];have hi':i<d'.size:=by simp only at hi; omega
   have hic:i<cur.size:=by omega
   have ev:(putCells vX.enc 0 d' cur).getD i undef=(d'[i]!).enc:=by simp [putCells,Array.getD,hic,hi']
   have ed:(target.getD i []).getD 0 .top=(d'[i]!).dat:=by rw [<- htarget]; exact hgd i hi'
   rw [ev,ed];exact⟨(d'[i]!).2.2.1,.pure (d'[i]!).2.1⟩⟩
 have K3:=aJp (w:=w.setRow (ι key) (putCells vX.enc 0 d' cur)) n os;refine⟨.tuple #[],ι,rfl,K2.trans K3 (fun _ _ h=>h) (fun _ _ h=>h.elim),S2.ext K3,Nat.le_refl _,fun _ _=>rfl,fun k o hk=>?_,.tup rfl (fun j hj=>by simp at hj)⟩
 by_cases ek:k=key
 ·subst ek; exact .inr ⟨k,_,hget,rfl⟩
 ·refine .inr ⟨k,o,?_,rfl⟩;rw [wG,if_neg (fun e=>ek e.symm)] at hk;exact hk
end Go.Pd

/- Part SD. -/
set_option maxRecDepth 100000
namespace Go.Pd
open Go Go.Proofs Go.Shelf Go.Sort
open Ru
def bTh : D->Int
 | .int _ n=>n
 | _=>0
theorem oW {k:Nat} {o:Ob}:∀ {r:List (Nat × Ob)},St.look r k=some o->uR r k o=r
 | [],h=>by cases h
 | (j,o') :: r,h=>by
  rw [xX] at h;rw [sM]
  by_cases e:j=k
  ·rw [if_pos e] at h ⊢;injection h with h; rw [h]
  ·rw [if_neg e] at h ⊢;rw [oW h]
def asc (l:List (List Int)):Prop:=l.Pairwise fun a b=>¬ kc b a<0
def aV4 (l:List (List Int)):List (List Int):=l.mergeSort fun a b=>decide (¬ kc b a<0)
theorem kK (l:List (List Int)):(aV4 l).Perm l:=List.mergeSort_perm l _
theorem aTx (a b:List Int):¬ kc b a<0\/¬ kc a b<0:=by have:=pB a b; omega
theorem aQm (l:List (List Int)):asc (aV4 l):=by have:=List.pairwise_mergeSort (le:=fun a b:List Int=>decide (¬ kc b a<0)) (fun a b c h1 h2=>by simp only [decide_eq_true_eq] at h1 h2 ⊢; exact kZ h2 h1) (fun a b=>by simp only [Bool.or_eq_true,decide_eq_true_eq]; exact aTx a b) l;unfold asc aV4;exact this.imp fun h=>by simpa using h
theorem aU1 {a b:List Int} (h1:¬ kc b a<0) (h2:¬ kc a b<0):a=b:=aXj (by have:=pB a b; omega)
theorem aLp {l m:List (List Int)} (hp:m.Perm l) (hm:asc m):m=aV4 l:= List.Perm.eq_of_pairwise (le:=fun a b=>¬ kc b a<0) (fun x y _ _ h1 h2=>aU1 h1 h2) hm (aQm l) (hp.trans (kK l).symm)
theorem bW9 {o:List (List Int)} (h:∀ a b,a<b->b<o.length->¬ kc (o.getD b []) (o.getD a [])<0):asc o:=by unfold asc;rw [List.pairwise_iff_getElem];intro i j hi hj hij;have:=h i j hij hj;simpa [List.getD,hi,hj] using this
end Go.Pd

/- Part SE. -/
namespace Go.Pd
open Go Go.Proofs
open Ru
def below (m:List (List Int)) (x:List Int):Nat:=(m.filter fun y=>decide (kc y x<0)).length
theorem aYk {x:List Int}:∀ {m:List (List Int)} {i:Nat},i<=m.length->(∀ a,a<i->kc (m.getD a []) x<0)->(∀ a,i<=a->a<m.length->¬ kc (m.getD a []) x<0)->below m x=i
 | [],i,h,_,_=>by simp at h; simp [below,h]
 | y :: m,0,_,_,h2=>by have h0:=h2 0 (Nat.le_refl _) (by simp);have ih:=aYk (x:=x) (m:=m) (i:=0) (Nat.zero_le _) (fun a ha=>by omega) (fun a _ ha=>by simpa using h2 (a+1) (by omega) (by simp; omega));unfold below at ih ⊢;rw [List.filter_cons,if_neg (by simpa using h0),ih]
 | y :: m,i+1,hi,h1,h2=>by have h0:=h1 0 (by omega);have ih:=aYk (x:=x) (m:=m) (i:=i) (by simpa using hi) (fun a ha=>by simpa using h1 (a+1) (by omega)) (fun a ha hb=>by simpa using h2 (a+1) (by omega) (by simp; omega));unfold below at ih ⊢;rw [List.filter_cons,if_pos (by simpa using h0),List.length_cons,ih]
theorem aGc {n:Nat} (h:n<=1000000):aI5 .u64 (n:Int) (ui 1#64)= ((n / 2:Nat):Int):=by unfold aI5;have e:min (ui 1#64).toNat IntKind.u64.bits=1:=rfl;rw [e];show ((n:Int)).fdiv 2=_;rw [Int.fdiv_eq_ediv_of_nonneg _ (by decide)];omega
theorem aCg {m:List (List Int)} {x:List Int} (hm:asc m) {a b:Nat} (hab:a<=b) (hb:b<m.length) (h:kc (m.getD b []) x<0):kc (m.getD a []) x<0:=by
 by_cases e:a=b
 ·rw [e]; exact h
 ·have hp:=List.pairwise_iff_getElem.1 hm a b (by omega) hb (by omega);have e1:m.getD a []=m[a]'(by omega):=by simp [List.getD,show a<m.length by omega]
  have e2:m.getD b []=m[b]:=by simp [List.getD,hb]
  rw [e1]; rw [e2] at h
  by_cases c:kc (m[a]'(by omega)) x<0
  ·exact c
  ·exact absurd h (kZ hp c)
def sW (l:List (List Int)):Nat->List (List Int)
 | 0=>[]
 | k+1=>if 0<k/\l.getD k []=l.getD (k-1) [] then sW l k else sW l k ++ [l.getD k []]
def dedup (l:List (List Int)):List (List Int):=sW l l.length
theorem kP {l:List (List Int)}:∀ {k:Nat},k<=l.length->(∀ i,0<i->i<k->l.getD i []≠l.getD (i-1) [])->sW l k=l.take k
 | 0,_,_=>by simp [sW]
 | k+1,h,hn=>by rw [sW,if_neg (fun c=>hn k c.1 (by omega) c.2),kP (by omega) (fun i h1 h2=>hn i h1 (by omega)),<- wT (by omega)]
theorem aLk (l:List (List Int)):∀ k,(sW l k).length<=k
 | 0=>Nat.le_refl _
 | k+1=>by
  have:=aLk l k;rw [sW]
  split
  ·omega
  ·rw [List.length_append]; simp; omega
theorem aJ4 (l:List (List Int)) (k:Nat):(sW l k).length<=(sW l (k+1)).length:=by
 rw [sW]; split
 ·exact Nat.le_refl _
 ·rw [List.length_append]; omega
theorem aWs (o:List (List Int)) (i j:Nat) (x:List Int):(o.set i x).getD j []=if i=j/\j<o.length then x else o.getD j []:=by
 simp only [List.getD,List.getElem?_set]
 split
 ·rename_i h; subst h; by_cases hj:i<o.length
  ·simp [hj]
  ·simp [hj]
 ·rename_i h; simp [h]
theorem aQe (l:List (List Int)):∀ k,0<(sW l (k+1)).length
 | 0=>by rw [sW,if_neg (by omega),List.length_append]; simp
 | k+1=>Nat.lt_of_lt_of_le (aQe l k) (aJ4 l (k+1))
theorem eL {k:Nat} {o o':Ob}:∀ {r:List (Nat × Ob)},St.look r k=some o->St.look (uR r k o') k=some o'
 | [],h=>by cases h
 | (j,ob) :: r,h=>by
  rw [xX] at h;rw [sM]
  by_cases e:j=k
  ·rw [if_pos e,xX,if_pos e]
  ·rw [if_neg e] at h;rw [if_neg e,xX,if_neg e,eL h]
theorem oZ (k:Nat) (a b:Ob):∀ r:List (Nat × Ob),uR (uR r k a) k b=uR r k b
 | []=>rfl
 | (j,ob) :: r=>by
  rw [sM,sM]
  by_cases e:j=k
  ·rw [if_pos e,if_pos e,sM,if_pos e]
  ·rw [if_neg e,if_neg e,sM,if_neg e,oZ k a b r]
end Go.Pd
