/- Part SC. -/
import Derived.Test.YtndfaefmmcoapaaGreatKcP7
import Derived.Test.YtndfaefmmcoapaaGreatKcX6
import Derived.Shelf.SlSortCmp.NoneTotal
set_option linter.unusedSectionVars false
set_option linter.unusedVariables false
set_option linter.unusedSimpArgs false
set_option linter.defProp false
set_option maxRecDepth 20000
set_option maxHeartbeats 1000000
namespace Go.Pd
open Go Go.Proofs
open Int renaming reduceToNat -> ZA, reduceLT -> ZB, reduceLE -> ZC, reduceBEq -> ZD, reduceBNe -> ZE
open Nat renaming reduceEqDiff -> ZF, reduceAdd -> ZG, reduceBEq -> ZH, reduceLT -> ZI, reduceLeDiff -> ZJ, reduceMul -> ZK
open Ru
namespace Ru
def pO : List Int->List Int->Int
 | [],[]=>0
 | [],_ :: _=>-1
 | _ :: _,[]=>1
 | x :: a,y :: b=>if x<y then -1 else if y<x then 1 else pO a b
theorem aXh : ∀ a:List Int,pO a a=0
 | []=>rfl
 | x :: a=>by unfold pO; rw [if_neg (by omega),if_neg (by omega)]; exact aXh a
theorem eV : ∀ a b:List Int,pO a b = -1\/pO a b=0\/pO a b=1
 | [],[]=>.inr (.inl rfl)
 | [],_ :: _=>.inl rfl
 | _ :: _,[]=>.inr (.inr rfl)
 | x :: a,y :: b=>by
  unfold pO
  split
  ·exact .inl rfl
  ·split
   ·exact .inr (.inr rfl)
   ·exact eV a b
theorem aXg : ∀ {a b:List Int},pO a b=0->a=b
 | [],[],_=>rfl
 | [],_ :: _,h=>by simp [pO] at h
 | _ :: _,[],h=>by simp [pO] at h
 | x :: a,y :: b,h=>by
  unfold pO at h
  split at h
  ·omega
  ·split at h
   ·omega
   ·rw [aXg h,show x=y by omega]
theorem aXi : ∀ a b:List Int,pO b a =-pO a b
 | [],[]=>rfl
 | [],_ :: _=>rfl
 | _ :: _,[]=>rfl
 | x :: a,y :: b=>by
  unfold pO
  by_cases h1:x<y
  ·rw [if_pos h1,if_neg (by omega),if_pos h1]; rfl
  ·by_cases h2:y<x
   ·rw [if_pos h2,if_neg h1,if_pos h2]
   ·rw [if_neg h2,if_neg h1,if_neg h1,if_neg h2]; exact aXi a b
theorem eW : ∀ {a b c:List Int},pO a b<0->pO b c<0->pO a c<0
 | [],[],_,h,_=>by simp [pO] at h
 | [],_ :: _,[],_,h=>by simp [pO] at h
 | [],_ :: _,_ :: _,_,_=>by simp [pO]
 | _ :: _,[],_,h,_=>by simp [pO] at h
 | _ :: _,_ :: _,[],_,h=>by simp [pO] at h
 | x :: a,y :: b,z :: c,h1,h2=>by
  unfold pO at h1 h2 ⊢
  by_cases hxy:x<y
  ·by_cases hyz:z<y
   ·rw [if_neg (by omega),if_pos hyz] at h2; omega
   ·rw [if_pos (by omega)]; omega
  ·rw [if_neg hxy] at h1
   by_cases hyx:y<x
   ·rw [if_pos hyx] at h1; omega
   ·rw [if_neg hyx] at h1
    by_cases hyz:y<z
    ·rw [if_pos (by omega)]; omega
    ·rw [if_neg hyz] at h2
     by_cases hzy:z<y
     ·rw [if_pos hzy] at h2; omega
     ·rw [if_neg hzy] at h2;rw [if_neg (by omega),if_neg (by omega)];exact eW h1 h2
theorem aK6 (b:List Int):pO [] b=if b.length=0 then 0 else -1:=by cases b <;> rfl
def kc (a b:List Int):Int:=if a.length<b.length then -1 else if b.length<a.length then 1 else pO a b
theorem aQ2 (a:List Int):kc a a=0:=by unfold kc; rw [if_neg (by omega),if_neg (by omega)]; exact aXh a
theorem aUg (a b:List Int):kc a b = -1\/kc a b=0\/kc a b=1:=by
 have:=eV a b
 unfold kc; split
 ·exact .inl rfl
 ·split
  ·exact .inr (.inr rfl)
  ·exact this
theorem aZp {a b:List Int} (h:kc a b=0):a=b:=by
 unfold kc at h
 split at h
 ·omega
 ·split at h
  ·omega
  ·exact aXg h
theorem pA (a b:List Int):kc b a =-kc a b:=by
 have:=aXi a b;unfold kc
 by_cases h1:a.length<b.length
 ·rw [if_neg (by omega),if_pos h1,if_pos h1]; rfl
 ·by_cases h2:b.length<a.length
  ·rw [if_pos h2,if_neg h1,if_pos h2]
  ·rw [if_neg h2,if_neg h1,if_neg h1,if_neg h2]; exact this
theorem aUf {a b c:List Int} (h1:kc a b<0) (h2:kc b c<0):kc a c<0:=by
 have:=@eW a b c;unfold kc at h1 h2 ⊢
 by_cases x1:a.length<c.length
 ·rw [if_pos x1]; omega
 rw [if_neg x1]
 by_cases y1:a.length<b.length
 ·rw [if_neg (by omega),if_pos (by omega)] at h2; omega
 ·rw [if_neg y1] at h1
  by_cases y2:b.length<a.length
  ·rw [if_pos y2] at h1; omega
  ·rw [if_neg y2] at h1;rw [if_neg (by omega)] at h2
   by_cases y3:c.length<b.length
   ·rw [if_pos y3] at h2; omega
   ·rw [if_neg y3] at h2;rw [if_neg (by omega)];exact this h1 h2
theorem nH {a b c:List Int} (h1:¬ kc a b<0) (h2:¬ kc b c<0):¬ kc a c<0:=by
 intro h
 by_cases e1:kc a b=0
 ·rw [aZp e1] at h; exact h2 h
 ·by_cases e2:kc b c=0
  ·rw [<- aZp e2] at h; exact h1 h
  ·have r1:=aUg a b;have r2:=aUg b c;have a1:=pA a b;have a2:=pA b c;have a3:=pA a c;have:=aUf (a:=c) (b:=b) (c:=a) (by omega) (by omega);omega
end Ru
theorem aDj (a:Int):yX Tryz.prog 225 [.int .i64 a] (.bool false):=by
 refine xX.go_fn mixed Tryz.func225 bXu (by simp) fun hf=>?_;simp only [ZA,ZB,ZC,ZD,ZE,↓reduceIte,ZF,ZG,ZH,ZI,ZJ,reduceCtorEq,ZK,↓zU,↓zD,zV,zT,zW];exact .same
theorem aAl (a b:Int):yX Tryz.prog 185 [.int .i64 a,.int .i64 b] (.int .i64 (if a<b then -1 else if b<a then 1 else 0)):=by
 refine xX.go_fn mixed Tryz.func185 bYh (by simp) fun hf=>?_;simp only [ZA,ZB,ZC,ZD,ZE,↓reduceIte,ZF,ZG,ZH,ZI,ZJ,reduceCtorEq,ZK,↓zU,↓zD,zV,zT,zW];refine .go (cq (aDj a)) ?_;simp only [ZA,ZB,ZC,ZD,ZE,↓reduceIte,ZF,ZG,ZH,ZI,ZJ,reduceCtorEq,ZK,↓zU,↓zD,zV,zT,zW];refine .go (cq (aDj b)) ?_
 by_cases h1:a<b
 ·simp only [ZA,ZB,ZC,ZD,ZE,↓reduceIte,ZF,ZG,ZH,ZI,ZJ,reduceCtorEq,ZK,↓zU,↓zD,zV,zT,zW,h1];exact .same
 ·by_cases h2:b<a
  ·simp only [ZA,ZB,ZC,ZD,ZE,↓reduceIte,ZF,ZG,ZH,ZI,ZJ,reduceCtorEq,ZK,↓zU,↓zD,zV,zT,zW,h1,h2];exact .same
  ·simp only [ZA,ZB,ZC,ZD,ZE,↓reduceIte,ZF,ZG,ZH,ZI,ZJ,reduceCtorEq,ZK,↓zU,↓zD,zV,zT,zW,h1,h2];exact .same
theorem aSt (x:Int) (a:List Int):pO (x :: a) []=1:=rfl
theorem aO8 (x y:Int) (a b:List Int):pO (x :: a) (y :: b)= if x<y then -1 else if y<x then 1 else pO a b:=rfl
theorem aFu (a b:List Int):yX Tryz.prog 87 [.sl 1 (rows .i64 a),.sl 1 (rows .i64 b)] (.bool (decide (a=b))):=by
 refine xX.go_fn mixed Tryz.func87 k87 (by simp) fun hf=>?_;simp only [D.factL,D.fact,xF] at hf;have hlen:=hf.1.1;by_cases h1:a.length=b.length
 case neg=>
  have h1':((a.length:Int) != (b.length:Int))= true:=by simp; omega
  simp only [ZA,ZB,ZC,ZD,ZE,↓reduceIte,ZF,ZG,ZH,ZI,ZJ,reduceCtorEq,ZK,↓zU,↓zD,zV,zT,zW,h1'];exact .drop (by simp) (by simp only [vw,D.bool.injEq]; symm; apply decide_eq_false; rintro rfl; exact h1 rfl)
 have h1':((a.length:Int) != (b.length:Int))= false:=by simp; omega
 simp only [ZA,ZB,ZC,ZD,ZE,↓reduceIte,ZF,ZG,ZH,ZI,ZJ,reduceCtorEq,ZK,↓zU,↓zD,zV,zT,zW,h1']
 refine xV (fun k:Nat=>[(13,.int .i64 k),(12,.int .i64 a.length),(1,.sl 1 (rows .i64 b)),(0,.sl 1 (rows .i64 a))]) (fun _=>⟨0,[]⟩) (fun k=>k<=a.length/\∀ i,i<k->a.getD i 0=b.getD i 0) (fun k=>a.length-k) 0 ⟨Nat.zero_le _,fun i hi=>by omega⟩ ?_ ?_
 ·(refine xM.same ?_; simp [xR,Fr.get])
 intro k ⟨hk,hi⟩;refine xQ mixed ?_
 by_cases h:k<a.length
 ·have hd:((k:Int)<(a.length:Int)):=by omega
  by_cases hb:a.getD k 0=b.getD k 0
  ·have hb1:(a.getD k 0 != b.getD k 0)= false:=by simp only [hb,bne_self_eq_false]
   simp only [ZA,ZB,ZC,ZD,ZE,↓reduceIte,ZF,ZG,ZH,ZI,ZJ,reduceCtorEq,ZK,↓zU,↓zD,zV,zT,zW,hd,yL _ _ h,yL .i64 b (show k<b.length by omega),hb1]
   (repeat refine sd ?_)
   refine⟨k+1,⟨by omega,fun i hi2=>?_⟩,?_,by omega⟩
   ·by_cases ei:i=k
    ·rw [ei,hb]
    ·exact hi i (by omega)
   (refine xM.same ?_; simp only [xR,Fr.get,↓reduceIte,reduceIte,Nat.reduceEqDiff,reduceCtorEq,D.int.injEq,D.bool.injEq,D.sl.injEq,and_true,true_and,and_self])
   exact wrap_i64 (by omega)
  ·have hb1:(a.getD k 0 != b.getD k 0)= true:=bne_iff_ne.2 hb;simp only [ZA,ZB,ZC,ZD,ZE,↓reduceIte,ZF,ZG,ZH,ZI,ZJ,reduceCtorEq,ZK,↓zU,↓zD,zV,zT,zW,hd,yL _ _ h,yL .i64 b (show k<b.length by omega),hb1]
   (repeat refine sd ?_)
   exact .drop (by simp) (by simp only [vw,D.bool.injEq]; symm; apply decide_eq_false; rintro rfl; exact hb rfl)
 ·have hd:¬ ((k:Int)<(a.length:Int)):=by omega
  have hk':k=a.length:=by omega
  subst hk';simp only [ZA,ZB,ZC,ZD,ZE,↓reduceIte,ZF,ZG,ZH,ZI,ZJ,reduceCtorEq,ZK,↓zU,↓zD,zV,zT,zW,hd];refine .drop (by simp) ?_;simp only [vw,D.bool.injEq]; symm; apply decide_eq_true;refine List.ext_getElem h1 fun i h2 h3=>?_;have:=hi i h2;simpa [List.getD,h2,h3] using this
theorem bXg (x y:Int):yX Tryz.prog 184 [.sl 1 (rows .i64 [x,y])] (.int .i64 (if x≠0 then x else y)):=by
 refine xX.go_fn mixed Tryz.func184 bYi (by simp) fun hf=>?_;simp only [ZA,ZB,ZC,ZD,ZE,↓reduceIte,ZF,ZG,ZH,ZI,ZJ,reduceCtorEq,ZK,↓zU,↓zD,zV,zT,zW]
 refine xV (fun k:Nat=>[(8,.int .i64 k),(7,.int .i64 2),(6,.sl 1 (rows .i64 [x,y])),(3,.int .i64 0)]) (fun _=>⟨0,[]⟩) (fun k=>k<=2/\(0<k->x=0)/\ (1<k->y=0)) (fun k=>2-k) 0 ⟨by omega,by omega,by omega⟩ ?_ ?_
 ·(refine xM.same ?_; simp [xR,Fr.get,rows])
 intro k ⟨hk,h0,h1⟩;refine xQ mixed ?_
 obtain rfl | rfl | rfl:k=0\/k=1\/k=2:=by omega
 ·by_cases e:x=0
  ·have e':(x != 0)= false:=by simpa using e
   simp only [ZA,ZB,ZC,ZD,ZE,↓reduceIte,ZF,ZG,ZH,ZI,ZJ,reduceCtorEq,ZK,↓zU,↓zD,zV,zT,zW,e']
   (repeat refine sd ?_)
   exact⟨1,⟨by omega,fun _=>e,by omega⟩,by(refine xM.same ?_; simp only [xR,Fr.get,↓reduceIte,reduceIte,Nat.reduceEqDiff,reduceCtorEq,D.int.injEq,D.bool.injEq,D.sl.injEq,and_true,true_and,and_self]); rfl,by omega⟩
  ·have e':(x != 0)= true:=by simpa using e
   simp only [ZA,ZB,ZC,ZD,ZE,↓reduceIte,ZF,ZG,ZH,ZI,ZJ,reduceCtorEq,ZK,↓zU,↓zD,zV,zT,zW,e']
   (repeat refine sd ?_)
   rw [if_pos e];exact .same
 ·have e0:=h0 (by omega);have c1:((1:Nat):Int)= 1:=rfl
  by_cases e:y=0
  ·have e':(y != 0)= false:=by simpa using e
   simp only [ZA,ZB,ZC,ZD,ZE,↓reduceIte,ZF,ZG,ZH,ZI,ZJ,reduceCtorEq,ZK,↓zU,↓zD,zV,zT,zW,e',c1]
   (repeat refine sd ?_)
   exact⟨2,⟨by omega,fun _=>e0,fun _=>e⟩,by(refine xM.same ?_; simp only [xR,Fr.get,↓reduceIte,reduceIte,Nat.reduceEqDiff,reduceCtorEq,D.int.injEq,D.bool.injEq,D.sl.injEq,and_true,true_and,and_self]); rfl,by omega⟩
  ·have e':(y != 0)= true:=by simpa using e
   simp only [ZA,ZB,ZC,ZD,ZE,↓reduceIte,ZF,ZG,ZH,ZI,ZJ,reduceCtorEq,ZK,↓zU,↓zD,zV,zT,zW,e',c1]
   (repeat refine sd ?_)
   rw [if_neg (by omega)];exact .same
 ·have e0:=h0 (by omega);have e1:=h1 (by omega);have c1:((2:Nat):Int)= 2:=rfl;simp only [ZA,ZB,ZC,ZD,ZE,↓reduceIte,ZF,ZG,ZH,ZI,ZJ,reduceCtorEq,ZK,↓zU,↓zD,zV,zT,zW,c1];rw [if_neg (by omega),e1];exact .same
end Go.Pd

/- Part X7. -/
namespace Go.Pd
open Go Go.Proofs Go.Shelf Go.Sort
open Int renaming reduceToNat -> ZA, reduceLT -> ZB, reduceLE -> ZC, reduceBEq -> ZD, reduceBNe -> ZE
open Nat renaming reduceEqDiff -> ZF, reduceAdd -> ZG, reduceBEq -> ZH, reduceLT -> ZI, reduceLeDiff -> ZJ, reduceMul -> ZK
variable [tM]
def wT (M:Nat->Prop) (w:World) (C:D->Prop):Type:={ p:Value × D // RP M w p.1 p.2/\p.1.oneCell'=true/\C p.2 }
theorem gM {α:Type} [Inhabited α] (enc:α->Value) (w:World) (blk off m:Nat) (d:Array α) (os:Array Obj) {b:Nat} (hb:b<w.heap.size) (hn:b≠blk):(sortWorld enc w blk off m d os).heap[b]?=w.heap[b]?:=by
 show (((Sort.ahead w m).heap.modify blk (onCells (putCells enc off d)))++ os)[b]?=_;rw [Array.getElem?_append_left (by simpa using hb),Array.getElem?_modify,if_neg (fun e=>hn e.symm)];rfl
theorem gC {α:Type} [Inhabited α] (enc:α->Value) (w:World) (blk off m:Nat) (d:Array α) (os:Array Obj):w.heap.size<=(sortWorld enc w blk off m d os).heap.size:=by
 show w.heap.size<=(((Sort.ahead w m).heap.modify blk (onCells (putCells enc off d)))++ os).size;simp [Sort.ahead]
theorem aYh {α:Type} [Inhabited α] (enc:α->Value) (w:World) (blk off m:Nat) (d:Array α) (os:Array Obj) {cur:Array Value} {e:TypeId} {fr:Nat × Nat} (hc:w.heap[blk]?=some (Obj.cells cur e fr)) :
  sortWorld enc w blk off m d os=grow ((w.setRow blk (putCells enc off d cur)).drewN m) os:=by
 unfold sortWorld;congr 1;unfold putRow mapBlock Sort.ahead World.drewN World.setRow;congr 1;apply Array.ext_getElem?;intro k;simp only [Array.getElem?_modify]
 by_cases hk:blk=k
 ·subst hk;simp only [if_true,hc,Option.map_some,onCells]
 ·simp [hk]
theorem aSu {w w':World} (h:Kept w w' fun _=>False):∃ q os,w'=grow (w.drewN q) os:=by
 refine⟨w'.drawn-w.drawn,w'.heap.extract w.heap.size w'.heap.size,?_⟩;have hd:=h.drawn;have hs:=h.size;obtain⟨heap,tape,drawn,os,output⟩:=w;obtain⟨heap',tape',drawn',os',output'⟩:=w';have h1:=h.os;have h2:=h.tape;have h3:=h.output;have h4:=h.block;simp only at h1 h2 h3 h4 hd hs;subst h1; subst h2; subst h3;unfold grow World.drewN;simp only [World.mk.injEq,and_true,true_and];refine⟨?_,by omega⟩;apply Array.ext_getElem?;intro i
 by_cases hi:i<heap.size
 ·rw [Array.getElem?_append_left hi,h4 i hi id]
 ·rw [Array.getElem?_append_right (by omega),Array.getElem?_extract]
  by_cases h2:i<heap'.size
  ·rw [if_pos (by omega)];congr 1; omega
  ·rw [if_neg (by omega)];exact Array.getElem?_eq_none (by omega)
theorem aNc {w:World} (q:Nat) (os:Array Obj):Kept w (grow (w.drewN q) os) fun _=>False:=by
 refine⟨rfl,rfl,rfl,by simp [World.drewN],fun b hb _=>?_,fun b cur e h=>⟨cur,?_,rfl⟩,by show w.drawn<=w.drawn+q; omega⟩
 ·show (w.heap++os)[b]?=_;rw [Array.getElem?_append_left hb]
 ·have hb:b<w.heap.size:=(Array.getElem?_eq_some_iff.1 h).1;show (w.heap++os)[b]?=_;rw [Array.getElem?_append_left hb];exact h
def hd (e:List D):D:=e.getD 0 .top
def aPk (cf:D->D->Int) (els:List (List D)):Prop:=∀ i j,i<j->j<els.length->¬ cf (hd (els.getD j [])) (hd (els.getD i []))<0
def wT.enc {M:Nat->Prop} {w:World} {C:D->Prop} (a:wT M w C):Value:=a.1.1
def wT.dat {M:Nat->Prop} {w:World} {C:D->Prop} (a:wT M w C):D:=a.1.2
def wT.cf {M:Nat->Prop} {w:World} {C:D->Prop} (cf:D->D->Int) (a b:wT M w C):Int:=cf a.dat b.dat
theorem aRm {α:Type} [Inhabited α] {n:Nat} {p:Nat->α->Prop} (h:∀ i,i<n->∃ a,p i a):∃ d:Array α,d.size=n/\∀ i,i<n->p i d[i]!:=by
 obtain⟨f,hf⟩:=Deep.choose_lt h;refine⟨((List.range n).map f).toArray,by simp,fun i hi=>?_⟩;rw [getElem!_pos _ i (by simpa using hi)];simpa using hf i hi
theorem gT {α:Type} (a:Array α):a.extract 0 a.size=a:=by simp
theorem aP5 {P:Program} {g:FuncId} {C:D->Prop} {cf:D->D->Int} (hcmp:∀ x y,C x->C y->yX P g [x,y] (.int .i64 (cf x y))) {M0:Nat->Prop} {w:World} {σ:St} {ι:Nat->Nat} (hS:wL M0 w σ ι) {key:Nat} {ob:Ob} (hget:σ.get key=some ob) (size:Nat) [Inhabited (wT (Mof M0 ι σ) w C)] :
  CmpLays1 P g #[] (wT.enc (M:=Mof M0 ι σ) (w:=w) (C:=C)) (wT.cf cf) (ι key) 0 size w:=by
 intro m os dk hdk x y;have hne:∀ b,¬ Mof M0 ι σ b->b≠ι key:=fun b hb e=>hb (.inr ⟨key,ob,hget,e.symm⟩)
 have hM:∀ b,Mof (Mof M0 ι σ) ι St0 b->Mof M0 ι σ b:=by
  rintro b (h | ⟨k,o,hk,_⟩)
  ·exact h
  ·cases hk
 have hsz:=gC wT.enc w (ι key) 0 m dk os;have hblock:∀ b,b<w.heap.size->¬ Mof M0 ι σ b->(sortWorld wT.enc w (ι key) 0 m dk os).heap[b]?=w.heap[b]?:=fun b hb hn=>gM wT.enc w (ι key) 0 m dk os hb (hne b hn)
 have S1:wL (Mof M0 ι σ) (sortWorld wT.enc w (ι key) 0 m dk os) St0 ι:=
  ⟨fun b hb=>Nat.lt_of_lt_of_le (Mof.lt hS hb) hsz,(fun k o hk=>by cases hk),(fun k k' o o' hk=>by cases hk),(fun k o hk=>by cases hk),hS.tabs.keep hsz hblock fun b _ hb=>hM b hb⟩
 have keep:∀ z:wT (Mof M0 ι σ) w C,RP (Mof (Mof M0 ι σ) ι St0) (sortWorld wT.enc w (ι key) 0 m dk os) z.enc z.dat:=fun z=>z.2.1.keep hblock fun b _ hb=>hM b hb
 refine((hcmp x.dat y.dat x.2.2.2 y.2.2.2).run _ _ ι (#[x.enc,y.enc] ++ #[]) S1 rfl fun j hj=>?_).mono fun e w' hh=>?_
 ·match j,hj with
  | 0,_=>exact .pure (keep x)
  | 1,_=>exact .pure (keep y)
 ·obtain⟨v,ι',rfl,k1,k2,k3,k4,k5,k6⟩:=hh;have K0:Kept (sortWorld wT.enc w (ι key) 0 m dk os) w' fun _=>False:=k1.mono fun b _ ⟨k,o,hk,_⟩=>by cases hk
  refine⟨?_,aSu K0⟩;rw [k6.int_inv.1];rfl
set_option maxHeartbeats 1000000 in
theorem aLj {P:Program} {ρ:Ren} (L:SlLaysF.n6 P ρ) (hord:uI P (ρ.f 6)) {g:FuncId} {C:D->Prop} {cf:D->D->Int}
  (hg:uI P g) (hcmp:∀ x y,C x->C y->yX P g [x,y] (.int .i64 (cf x y)))
  (hirr:∀ x,C x->¬ cf x x<0) (htr:∀ x y z,C x->C y->C z->cf x y<0->cf y z<0->cf x z<0) (hntr:∀ x y z,C x->C y->C z->¬ cf x y<0->¬ cf y z<0->¬ cf x z<0)
  {σ:St} {key:Nat} {els target:List (List D)} (hget:σ.get key=some ⟨1,els⟩) (hels:∀ e ∈ els,∃ d:D,e = [d]/\d.isPure=true/\C d) (hlen:els.length<4611686018427387904) (hne:els ≠ [])
  (hT:∀ els',els'.Perm els->aPk cf els'->els'=target) :
  xX P (ρ.f 6) [.osl key 1 els.length,.fn g []] σ (.tup []) (σ.set key ⟨1,target⟩):=by
 refine⟨hord,fun M0 w ι vals hS hl hv=>?_⟩;have h0:=hv 0 (by simp);have h1:=hv 1 (by simp);simp only [List.getD_cons_zero,List.getD_cons_succ] at h0 h1;obtain⟨cap,cur0,e0,e1,kk,a1,a2,a3,a4⟩:=h0.osl_inv;obtain⟨cb,f1,f2,f3⟩:=h1.fn_inv;have hcb:cb = #[]:=Array.eq_empty_of_size_eq_zero (by simpa using f2);subst hcb
 have hvals:vals = #[.slice (some ⟨ι key,0,none⟩) els.length cap,.func (.func g) #[] #[]]:=by
  obtain⟨l⟩:=vals
  match l,hl with
  | [x,y],_=>
   simp at e1 f1;rw [e1,f1]
 subst hvals;clear h0 h1 hv e1 f1 f2 f3 hl;have hk:=(hS.holds key _ hget).1;obtain⟨cur,e,c1,c2,c3,c4⟩:=yY.cells (hS.holds key _ hget).2 (Nat.lt_succ_self 0);simp only [Nat.mul_one] at c3
 have cell:∀ i,i<els.length->∃ a:wT (Mof M0 ι σ) w C,a.enc=cur.getD i undef/\els.getD i [] = [a.dat]:=by
  intro i hi;have hm:els.getD i [] ∈ els:=by simp [List.getD,hi]
  obtain⟨d,hd,hp,hc⟩:=hels _ hm;have h:=c4 i hi 0 (Nat.lt_succ_self 0);simp only [Nat.mul_one,Nat.add_zero] at h;rw [hd] at h;exact⟨⟨(cur.getD i undef,d),h.2.toRP hp,h.1,hc⟩,rfl,hd⟩
 have hpos:0<els.length:=List.length_pos_iff.2 hne;obtain⟨a0,_⟩:=cell 0 hpos
 haveI:Inhabited (wT (Mof M0 ι σ) w C):=⟨a0⟩
 obtain⟨d,hds,hdi⟩:=aRm cell
 have hO:SWO (ltOf (wT.cf (M:=Mof M0 ι σ) (w:=w) (C:=C) cf)):=by
  exact⟨fun x=>decide_eq_false (hirr x.dat x.2.2.2),fun x y z h1 h2=>decide_eq_true (htr x.dat y.dat z.dat x.2.2.2 y.2.2.2 z.2.2.2 (of_decide_eq_true h1) (of_decide_eq_true h2)),
   fun x y z h1 h2=>decide_eq_false (hntr x.dat y.dat z.dat x.2.2.2 y.2.2.2 z.2.2.2 (of_decide_eq_false h1) (of_decide_eq_false h2))⟩
 have hH:Holds wT.enc w (ι key) 0 d:=by
  intro j hj;have hj':j<els.length:=by omega
  have hjc:j<cur.size:=by omega
  refine⟨?_,?_⟩
  ·rw [(hdi j hj').1];simp [World.cell?,c1,Array.getD,hjc]
  ·simp [World.frozen?,c1]
 have hcall:=Any.slices_SortFunc L (wT.enc (M:=Mof M0 ι σ) (w:=w) (C:=C)) (fun x=>x.2.2.1) (wT.cf cf) hO g #[] (ι key) 0 cap d w (fun args w=>tE hg args w) (aP5 hcmp hS hget d.size) hH (Array.getElem?_eq_some_iff.1 c1).1 (by omega);rw [hds] at hcall;refine hcall.mono fun e' w' hh=>?_;obtain⟨rfl,d',n,os,hp,hs,rfl⟩:=hh;rw [<- hds] at hp hs;have hsz:d'.size=d.size:=hp.1
 have e1:d.toList.map (fun a=>[a.dat])= els:=by
  refine List.ext_getElem (by simpa using hds) fun i h1 h2=>?_;have:=(hdi i h2).2;rw [getElem!_pos d i (by omega)] at this;simp only [List.getElem_map,Array.getElem_toList];simp only [List.getD,List.getElem?_eq_getElem h2,Option.getD_some] at this;exact this.symm
 have hperm:(d'.toList.map fun a=>[a.dat]).Perm els:=by
  rw [<- e1];have:=hp.2.2;rw [<- hsz] at this;conv at this=>lhs; rw [gT d']
  rw [hsz,gT d] at this;exact this.map _
 have hgd:∀ i,i<d'.size->hd ((d'.toList.map fun a=>[a.dat]).getD i [])= (d'[i]!).dat:=by
  intro i hi;rw [getElem!_pos d' i hi];simp [hd,List.getD,hi]
 have hsort:aPk cf (d'.toList.map fun a=>[a.dat]):=by
  intro i j hij hj;have hj':j<d'.size:=by simpa using hj
  rw [hgd j hj',hgd i (by omega)];have:=hs i j (Nat.zero_le _) hij (by omega);exact of_decide_eq_false this
 have htarget:=hT _ hperm hsort;have htl:target.length=els.length:=by rw [<- htarget]; exact hperm.length_eq
 rw [aYh _ _ _ _ _ _ _ c1];have hcs:(putCells wT.enc 0 d' cur).size=cur.size:=by simp [putCells]
 obtain⟨S2,K2⟩:=hS.set (ob':=⟨1,target⟩) hget c1 hcs (Nat.lt_succ_self 0) (by simp only [Nat.mul_one]; omega) ⟨fun el he=>by
   rw [<- htarget] at he;simp only [List.mem_map] at he;obtain⟨a,_,rfl⟩:=he;rfl,fun i hi j hj=>by
   have hj0:j=0:=by simp only at hj; omega
   subst hj0;simp only [Nat.mul_one,Nat.add_zero];have hi':i<d'.size:=by simp only at hi; omega
   have hic:i<cur.size:=by omega
   have ev:(putCells wT.enc 0 d' cur).getD i undef=(d'[i]!).enc:=by
    simp [putCells,Array.getD,hic,hi']
   have ed:(target.getD i []).getD 0 .top=(d'[i]!).dat:=by
    rw [<- htarget]; exact hgd i hi'
   rw [ev,ed];exact⟨(d'[i]!).2.2.1,.pure (d'[i]!).2.1⟩⟩
 have K3:=aNc (w:=w.setRow (ι key) (putCells wT.enc 0 d' cur)) n os;refine⟨.tuple #[],ι,rfl,K2.trans K3 (fun _ _ h=>h) (fun _ _ h=>h.elim),S2.ext K3,Nat.le_refl _,fun _ _=>rfl,fun k o hk=>?_,.tup rfl (fun j hj=>by simp at hj)⟩
 by_cases ek:k=key
 ·subst ek; exact .inr ⟨k,_,hget,rfl⟩
 ·refine .inr ⟨k,o,?_,rfl⟩;rw [wZ,if_neg (fun e=>ek e.symm)] at hk;exact hk
end Go.Pd

/- Part SD. -/
set_option maxRecDepth 100000
namespace Go.Pd
open Go Go.Proofs Go.Shelf Go.Sort
open Int renaming reduceToNat -> ZA, reduceLT -> ZB, reduceLE -> ZC, reduceBEq -> ZD, reduceBNe -> ZE
open Nat renaming reduceEqDiff -> ZF, reduceAdd -> ZG, reduceBEq -> ZH, reduceLT -> ZI, reduceLeDiff -> ZJ, reduceMul -> ZK
open Ru
def aA6 : D->Int
 | .int _ n=>n
 | _=>0
theorem jH {k:Nat} {o:Ob}:∀ {r:List (Nat × Ob)},St.look r k=some o->wF r k o=r
 | [],h=>by cases h
 | (j,o') :: r,h=>by
  rw [xY] at h;rw [tU]
  by_cases e:j=k
  ·rw [if_pos e] at h ⊢;injection h with h; rw [h]
  ·rw [if_neg e] at h ⊢;rw [jH h]
def asc (l:List (List Int)):Prop:=l.Pairwise fun a b=>¬ kc b a<0
def aYz (l:List (List Int)):List (List Int):=l.mergeSort fun a b=>decide (¬ kc b a<0)
theorem qS (l:List (List Int)):(aYz l).Perm l:=List.mergeSort_perm l _
theorem aWf (a b:List Int):¬ kc b a<0\/¬ kc a b<0:=by have:=pA a b; omega
theorem cD (l:List (List Int)):asc (aYz l):=by
 have:=List.pairwise_mergeSort (le:=fun a b:List Int=>decide (¬ kc b a<0)) (fun a b c h1 h2=>by simp only [decide_eq_true_eq] at h1 h2 ⊢; exact nH h2 h1) (fun a b=>by simp only [Bool.or_eq_true,decide_eq_true_eq]; exact aWf a b) l;unfold asc aYz;exact this.imp fun h=>by simpa using h
theorem aZq {a b:List Int} (h1:¬ kc b a<0) (h2:¬ kc a b<0):a=b:=aZp (by have:=pA a b; omega)
theorem aPf {l m:List (List Int)} (hp:m.Perm l) (hm:asc m):m=aYz l:=
 List.Perm.eq_of_pairwise (le:=fun a b=>¬ kc b a<0) (fun x y _ _ h1 h2=>aZq h1 h2) hm (cD l) (hp.trans (qS l).symm)
theorem aC3 {o:List (List Int)} (h:∀ a b,a<b->b<o.length->¬ kc (o.getD b []) (o.getD a [])<0):asc o:=by
 unfold asc;rw [List.pairwise_iff_getElem];intro i j hi hj hij;have:=h i j hij hj;simpa [List.getD,hi,hj] using this
open Ru
def below (m:List (List Int)) (x:List Int):Nat:=(m.filter fun y=>decide (kc y x<0)).length
theorem cF {x:List Int}:∀ {m:List (List Int)} {i:Nat},i<=m.length->(∀ a,a<i->kc (m.getD a []) x<0)->(∀ a,i<=a->a<m.length->¬ kc (m.getD a []) x<0)->below m x=i
 | [],i,h,_,_=>by simp at h; simp [below,h]
 | y :: m,0,_,_,h2=>by
  have h0:=h2 0 (Nat.le_refl _) (by simp);have ih:=cF (x:=x) (m:=m) (i:=0) (Nat.zero_le _) (fun a ha=>by omega) (fun a _ ha=>by simpa using h2 (a+1) (by omega) (by simp; omega));unfold below at ih ⊢;rw [List.filter_cons,if_neg (by simpa using h0),ih]
 | y :: m,i+1,hi,h1,h2=>by
  have h0:=h1 0 (by omega);have ih:=cF (x:=x) (m:=m) (i:=i) (by simpa using hi) (fun a ha=>by simpa using h1 (a+1) (by omega)) (fun a ha hb=>by simpa using h2 (a+1) (by omega) (by simp; omega));unfold below at ih ⊢;rw [List.filter_cons,if_pos (by simpa using h0),List.length_cons,ih]
theorem aLm {n:Nat} (h:n<=1000000):aMg .u64 (n:Int) (ui 1#64)= ((n / 2:Nat):Int):=by
 unfold aMg;have e:min (ui 1#64).toNat IntKind.u64.bits=1:=rfl;rw [e];show ((n:Int)).fdiv 2=_;rw [Int.fdiv_eq_ediv_of_nonneg _ (by decide)];omega
theorem aIz {m:List (List Int)} {x:List Int} (hm:asc m) {a b:Nat} (hab:a<=b) (hb:b<m.length) (h:kc (m.getD b []) x<0):kc (m.getD a []) x<0:=by
 by_cases e:a=b
 ·rw [e]; exact h
 ·have hp:=List.pairwise_iff_getElem.1 hm a b (by omega) hb (by omega);have e1:m.getD a []=m[a]'(by omega):=by simp [List.getD,show a<m.length by omega]
  have e2:m.getD b []=m[b]:=by simp [List.getD,hb]
  rw [e1]; rw [e2] at h
  by_cases c:kc (m[a]'(by omega)) x<0
  ·exact c
  ·exact absurd h (nH hp c)
def uH (l:List (List Int)):Nat->List (List Int)
 | 0=>[]
 | k+1=>if 0<k/\l.getD k []=l.getD (k-1) [] then uH l k else uH l k ++ [l.getD k []]
def dedup (l:List (List Int)):List (List Int):=uH l l.length
theorem nC {l:List (List Int)}:∀ {k:Nat},k<=l.length->(∀ i,0<i->i<k->l.getD i []≠l.getD (i-1) [])->uH l k=l.take k
 | 0,_,_=>by simp [uH]
 | k+1,h,hn=>by
  rw [uH,if_neg (fun c=>hn k c.1 (by omega) c.2),nC (by omega) (fun i h1 h2=>hn i h1 (by omega)),<- yD (by omega)]
theorem aZv (l:List (List Int)):∀ k,(uH l k).length<=k
 | 0=>Nat.le_refl _
 | k+1=>by
  have:=aZv l k;rw [uH]
  split
  ·omega
  ·rw [List.length_append]; simp; omega
theorem aNr (l:List (List Int)) (k:Nat):(uH l k).length<=(uH l (k+1)).length:=by
 rw [uH]; split
 ·exact Nat.le_refl _
 ·rw [List.length_append]; omega
theorem aXl (o:List (List Int)) (i j:Nat) (x:List Int):(o.set i x).getD j []=if i=j/\j<o.length then x else o.getD j []:=by
 simp only [List.getD,List.getElem?_set]
 split
 ·rename_i h; subst h; by_cases hj:i<o.length
  ·simp [hj]
  ·simp [hj]
 ·rename_i h; simp [h]
theorem aUy (l:List (List Int)):∀ k,0<(uH l (k+1)).length
 | 0=>by rw [uH,if_neg (by omega),List.length_append]; simp
 | k+1=>Nat.lt_of_lt_of_le (aUy l k) (aNr l (k+1))
theorem aXd {k:Nat} {o o':Ob}:∀ {r:List (Nat × Ob)},St.look r k=some o->St.look (wF r k o') k=some o'
 | [],h=>by cases h
 | (j,ob) :: r,h=>by
  rw [xY] at h;rw [tU]
  by_cases e:j=k
  ·rw [if_pos e,xY,if_pos e]
  ·rw [if_neg e] at h;rw [if_neg e,xY,if_neg e,aXd h]
theorem jI (k:Nat) (a b:Ob):∀ r:List (Nat × Ob),wF (wF r k a) k b=wF r k b
 | []=>rfl
 | (j,ob) :: r=>by
  rw [tU,tU]
  by_cases e:j=k
  ·rw [if_pos e,if_pos e,tU,if_pos e]
  ·rw [if_neg e,if_neg e,tU,if_neg e,jI k a b r]
end Go.Pd

/- Part KF. -/
set_option maxRecDepth 100000
namespace Go.Pd
open Go Go.Proofs Go.Shelf Go.Sort
open Int renaming reduceToNat -> ZA, reduceLT -> ZB, reduceLE -> ZC, reduceBEq -> ZD, reduceBNe -> ZE
open Nat renaming reduceEqDiff -> ZF, reduceAdd -> ZG, reduceBEq -> ZH, reduceLT -> ZI, reduceLeDiff -> ZJ, reduceMul -> ZK
open Ru
def rlu (ll:List (List Int)):List (List D):=ll.map fun l=>[.sl 1 (rows .u64 l)]
theorem wH (l:List (List Int)):(rlu l).length=l.length:=by simp [rlu]
theorem sZ (l:List (List Int)) {i:Nat} (h:i<l.length):(rlu l).getD i [] = [.sl 1 (rows .u64 (l.getD i []))]:=by simp [rlu,List.getD,h]
theorem aLx (l:List (List Int)) (n:Nat):(rlu l).take n=rlu (l.take n):=by simp [rlu,List.map_take]
theorem aLy (l:List (List Int)) (r:List Int):rlu l ++ [[.sl 1 (rows .u64 r)]]=rlu (l ++ [r]):=by simp [rlu]
theorem aQt : rlu [] = []:=rfl
theorem cY (l:List (List Int)):∀ e ∈ rlu l,D.isPureL e=true:=by
 intro e he;simp only [rlu,List.mem_map] at he;obtain⟨r,_,rfl⟩:=he;have h:∀ e ∈ rows .u64 r,D.isPureL e=true:=uW _ r;have:(rows .u64 r).all D.isPureL=true:=List.all_eq_true.2 h;simp [D.isPureL,D.isPure,this]
theorem aOm (l:List (List Int)):uK (rlu l):=cY l
theorem aIo (a:Int):yX Tryz.prog 256 [.int .u64 a] (.bool false):=by
 refine xX.go_fn mixed Tryz.func256 bXl (by simp) fun hf=>?_;simp only [ZA,ZB,ZC,ZD,ZE,↓reduceIte,ZF,ZG,ZH,ZI,ZJ,reduceCtorEq,ZK,↓zU,↓zD,zV,zT,zW];exact .same
theorem aC0 (a b:Int):yX Tryz.prog 226 [.int .u64 a,.int .u64 b] (.int .i64 (if a<b then -1 else if b<a then 1 else 0)):=by
 refine xX.go_fn mixed Tryz.func226 bXt (by simp) fun hf=>?_;simp only [ZA,ZB,ZC,ZD,ZE,↓reduceIte,ZF,ZG,ZH,ZI,ZJ,reduceCtorEq,ZK,↓zU,↓zD,zV,zT,zW];refine .go (cq (aIo a)) ?_;simp only [ZA,ZB,ZC,ZD,ZE,↓reduceIte,ZF,ZG,ZH,ZI,ZJ,reduceCtorEq,ZK,↓zU,↓zD,zV,zT,zW];refine .go (cq (aIo b)) ?_
 by_cases h1:a<b
 ·simp only [ZA,ZB,ZC,ZD,ZE,↓reduceIte,ZF,ZG,ZH,ZI,ZJ,reduceCtorEq,ZK,↓zU,↓zD,zV,zT,zW,h1];exact .same
 ·by_cases h2:b<a
  ·simp only [ZA,ZB,ZC,ZD,ZE,↓reduceIte,ZF,ZG,ZH,ZI,ZJ,reduceCtorEq,ZK,↓zU,↓zD,zV,zT,zW,h1,h2];exact .same
  ·simp only [ZA,ZB,ZC,ZD,ZE,↓reduceIte,ZF,ZG,ZH,ZI,ZJ,reduceCtorEq,ZK,↓zU,↓zD,zV,zT,zW,h1,h2];exact .same
theorem aCm (a b:List Int):yX Tryz.prog 186 [.sl 1 (rows .u64 a),.sl 1 (rows .u64 b)] (.int .i64 (pO a b)):=by
 refine xX.go_fn mixed Tryz.func186 bYg (by simp) fun hf=>?_;simp only [D.factL,D.fact,xF] at hf;have hlen:=hf.1.1;simp only [ZA,ZB,ZC,ZD,ZE,↓reduceIte,ZF,ZG,ZH,ZI,ZJ,reduceCtorEq,ZK,↓zU,↓zD,zV,zT,zW]
 refine xV (fun k:Nat=>[(11,.int .i64 k),(10,.int .i64 a.length),(9,.sl 1 (rows .u64 a)),(1,.sl 1 (rows .u64 b)),(0,.sl 1 (rows .u64 a))]) (fun _=>⟨0,[]⟩) (fun k=>k<=a.length/\k<=b.length/\pO a b=pO (a.drop k) (b.drop k)) (fun k=>a.length-k) 0 ⟨Nat.zero_le _,Nat.zero_le _,rfl⟩ ?_ ?_
 ·(refine xM.same ?_; simp [xR,Fr.get])
 intro k ⟨hk,hk2,hi⟩;refine xQ mixed ?_
 by_cases h:k<a.length
 ·have hd:((k:Int)<(a.length:Int)):=by omega
  have e1:a.drop k=a.getD k 0 :: a.drop (k+1):=by simp [List.getD,h]
  rw [e1] at hi
  by_cases h2:k<b.length
  ·have hd2:¬ ((b.length:Int)<=(k:Int)):=by omega
   have hd3:((k:Int)<(b.length:Int)):=by omega
   have e2:b.drop k=b.getD k 0 :: b.drop (k+1):=by simp [List.getD,h2]
   rw [e2,aO8] at hi;simp only [ZA,ZB,ZC,ZD,ZE,↓reduceIte,ZF,ZG,ZH,ZI,ZJ,reduceCtorEq,ZK,↓zU,↓zD,zV,zT,zW,hd,yL .u64 a h,hd2,hd3,yL .u64 b h2]
   (repeat refine sd ?_)
   refine .go (xX.of_runs (aC0 (a.getD k 0) (b.getD k 0)) rfl) ?_
   by_cases c1:a.getD k 0<b.getD k 0
   ·rw [if_pos c1] at hi ⊢;simp only [ZA,ZB,ZC,ZD,ZE,↓reduceIte,ZF,ZG,ZH,ZI,ZJ,reduceCtorEq,ZK,↓zU,↓zD,zV,zT,zW];rw [hi];exact .same
   ·by_cases c2:b.getD k 0<a.getD k 0
    ·rw [if_neg c1,if_pos c2] at hi ⊢;simp only [ZA,ZB,ZC,ZD,ZE,↓reduceIte,ZF,ZG,ZH,ZI,ZJ,reduceCtorEq,ZK,↓zU,↓zD,zV,zT,zW];rw [hi];exact .same
    ·rw [if_neg c1,if_neg c2] at hi ⊢;simp only [ZA,ZB,ZC,ZD,ZE,↓reduceIte,ZF,ZG,ZH,ZI,ZJ,reduceCtorEq,ZK,↓zU,↓zD,zV,zT,zW];refine⟨k+1,⟨by omega,by omega,hi⟩,?_,by omega⟩
     (refine xM.same ?_; simp only [xR,Fr.get,↓reduceIte,reduceIte,Nat.reduceEqDiff,reduceCtorEq,D.int.injEq,D.bool.injEq,D.sl.injEq,and_true,true_and,and_self])
     exact wrap_i64 (by omega)
  ·have hd2:((b.length:Int)<=(k:Int)):=by omega
   rw [List.drop_eq_nil_of_le (show b.length<=k by omega),aSt] at hi;simp only [ZA,ZB,ZC,ZD,ZE,↓reduceIte,ZF,ZG,ZH,ZI,ZJ,reduceCtorEq,ZK,↓zU,↓zD,zV,zT,zW,hd,yL .u64 a h,hd2]
   (repeat refine sd ?_)
   rw [hi];exact .same
 ·have hd:¬ ((k:Int)<(a.length:Int)):=by omega
  rw [List.drop_eq_nil_of_le (show a.length<=k by omega),aK6,List.length_drop] at hi
  by_cases c:a.length<b.length
  ·have c':(a.length:Int)<(b.length:Int):=by omega
   rw [if_neg (by omega)] at hi;simp only [ZA,ZB,ZC,ZD,ZE,↓reduceIte,ZF,ZG,ZH,ZI,ZJ,reduceCtorEq,ZK,↓zU,↓zD,zV,zT,zW,hd,c'];rw [hi];exact .same
  ·have c':¬ (a.length:Int)<(b.length:Int):=by omega
   rw [if_pos (by omega)] at hi;simp only [ZA,ZB,ZC,ZD,ZE,↓reduceIte,ZF,ZG,ZH,ZI,ZJ,reduceCtorEq,ZK,↓zU,↓zD,zV,zT,zW,hd,c'];rw [hi];exact .same
theorem cI (a b:List Int):yX Tryz.prog 74 [.sl 1 (rows .u64 a),.sl 1 (rows .u64 b)] (.bool (decide (a=b))):=by
 refine xX.go_fn mixed Tryz.func74 k74 (by simp) fun hf=>?_;simp only [D.factL,D.fact,xF] at hf;have hlen:=hf.1.1;by_cases h1:a.length=b.length
 case neg=>
  have h1':((a.length:Int) != (b.length:Int))= true:=by simp; omega
  simp only [ZA,ZB,ZC,ZD,ZE,↓reduceIte,ZF,ZG,ZH,ZI,ZJ,reduceCtorEq,ZK,↓zU,↓zD,zV,zT,zW,h1'];exact .drop (by simp) (by simp only [vw,D.bool.injEq]; symm; apply decide_eq_false; rintro rfl; exact h1 rfl)
 have h1':((a.length:Int) != (b.length:Int))= false:=by simp; omega
 simp only [ZA,ZB,ZC,ZD,ZE,↓reduceIte,ZF,ZG,ZH,ZI,ZJ,reduceCtorEq,ZK,↓zU,↓zD,zV,zT,zW,h1']
 refine xV (fun k:Nat=>[(13,.int .i64 k),(12,.int .i64 a.length),(1,.sl 1 (rows .u64 b)),(0,.sl 1 (rows .u64 a))]) (fun _=>⟨0,[]⟩) (fun k=>k<=a.length/\∀ i,i<k->a.getD i 0=b.getD i 0) (fun k=>a.length-k) 0 ⟨Nat.zero_le _,fun i hi=>by omega⟩ ?_ ?_
 ·(refine xM.same ?_; simp [xR,Fr.get])
 intro k ⟨hk,hi⟩;refine xQ mixed ?_
 by_cases h:k<a.length
 ·have hd:((k:Int)<(a.length:Int)):=by omega
  by_cases hb:a.getD k 0=b.getD k 0
  ·have hb1:(a.getD k 0 != b.getD k 0)= false:=by simp only [hb,bne_self_eq_false]
   simp only [ZA,ZB,ZC,ZD,ZE,↓reduceIte,ZF,ZG,ZH,ZI,ZJ,reduceCtorEq,ZK,↓zU,↓zD,zV,zT,zW,hd,yL _ _ h,yL .u64 b (show k<b.length by omega),hb1]
   (repeat refine sd ?_)
   refine⟨k+1,⟨by omega,fun i hi2=>?_⟩,?_,by omega⟩
   ·by_cases ei:i=k
    ·rw [ei,hb]
    ·exact hi i (by omega)
   (refine xM.same ?_; simp only [xR,Fr.get,↓reduceIte,reduceIte,Nat.reduceEqDiff,reduceCtorEq,D.int.injEq,D.bool.injEq,D.sl.injEq,and_true,true_and,and_self])
   exact wrap_i64 (by omega)
  ·have hb1:(a.getD k 0 != b.getD k 0)= true:=bne_iff_ne.2 hb;simp only [ZA,ZB,ZC,ZD,ZE,↓reduceIte,ZF,ZG,ZH,ZI,ZJ,reduceCtorEq,ZK,↓zU,↓zD,zV,zT,zW,hd,yL _ _ h,yL .u64 b (show k<b.length by omega),hb1]
   (repeat refine sd ?_)
   exact .drop (by simp) (by simp only [vw,D.bool.injEq]; symm; apply decide_eq_false; rintro rfl; exact hb rfl)
 ·have hd:¬ ((k:Int)<(a.length:Int)):=by omega
  have hk':k=a.length:=by omega
  subst hk';simp only [ZA,ZB,ZC,ZD,ZE,↓reduceIte,ZF,ZG,ZH,ZI,ZJ,reduceCtorEq,ZK,↓zU,↓zD,zV,zT,zW,hd];refine .drop (by simp) ?_;simp only [vw,D.bool.injEq]; symm; apply decide_eq_true;refine List.ext_getElem h1 fun i h2 h3=>?_;have:=hi i h2;simpa [List.getD,h2,h3] using this
theorem lP (a b:List Int):yX Tryz.prog 124 [.sl 1 (rows .u64 a),.sl 1 (rows .u64 b)] (.int .i64 (kc a b)):=by
 have h1:=aAl (a.length:Int) (b.length:Int);have h2:=aCm a b;have h3:=bXg (if (a.length:Int)<(b.length:Int) then -1 else if (b.length:Int)<(a.length:Int) then 1 else 0) (pO a b)
 have e:(if (if (a.length:Int)<(b.length:Int) then(-1:Int) else if (b.length:Int)<(a.length:Int) then 1 else 0)≠ 0 then(if (a.length:Int)<(b.length:Int) then(-1:Int) else if (b.length:Int)<(a.length:Int) then 1 else 0) else pO a b)= kc a b:=by
  unfold kc
  by_cases c1:a.length<b.length
  ·rw [if_pos (show (a.length:Int)<b.length by omega),if_pos c1]; rfl
  ·rw [if_neg (show ¬ (a.length:Int)<b.length by omega),if_neg c1]
   by_cases c2:b.length<a.length
   ·rw [if_pos (show (b.length:Int)<a.length by omega),if_pos c2]; rfl
   ·rw [if_neg (show ¬ (b.length:Int)<a.length by omega),if_neg c2]; rfl
 rw [e] at h3;simp only [jE,qI] at h3;generalize (if (a.length:Int)<(b.length:Int) then(-1:Int) else if (b.length:Int)<(a.length:Int) then 1 else 0)= z at h1 h3;refine xX.go_fn mixed Tryz.func124 bY6 (by simp) fun hf=>?_;simp only [ZA,ZB,ZC,ZD,ZE,↓reduceIte,ZF,ZG,ZH,ZI,ZJ,reduceCtorEq,ZK,↓zU,↓zD,zV,zT,zW];refine .go (cq h1) ?_;simp only [ZA,ZB,ZC,ZD,ZE,↓reduceIte,ZF,ZG,ZH,ZI,ZJ,reduceCtorEq,ZK,↓zU,↓zD,zV,zT,zW];refine .go (cr h2) ?_;simp only [ZA,ZB,ZC,ZD,ZE,↓reduceIte,ZF,ZG,ZH,ZI,ZJ,reduceCtorEq,ZK,↓zU,↓zD,zV,zT,zW];refine⟨by simp [D.isPureL,D.isPure],?_⟩;refine .go (cr h3) ?_;simp only [ZA,ZB,ZC,ZD,ZE,↓reduceIte,ZF,ZG,ZH,ZI,ZJ,reduceCtorEq,ZK,↓zU,↓zD,zV,zT,zW];exact .same
theorem aIq (a b:List Int):yX Tryz.prog 129 [.sl 1 (rows .u64 a),.sl 1 (rows .u64 b)] (.bool (decide (a=b))):=by
 refine xX.go_fn mixed Tryz.func129 bY4 (by simp) fun hf=>?_;simp only [ZA,ZB,ZC,ZD,ZE,↓reduceIte,ZF,ZG,ZH,ZI,ZJ,reduceCtorEq,ZK,↓zU,↓zD,zV,zT,zW];refine .go (cr (cI a b)) ?_;simp only [ZA,ZB,ZC,ZD,ZE,↓reduceIte,ZF,ZG,ZH,ZI,ZJ,reduceCtorEq,ZK,↓zU,↓zD,zV,zT,zW];exact .same
theorem aOf (l:List Int):(rows .u64 l).map (fun e=>aA6 (hd e))= l:=by
 unfold rows;rw [List.map_map];conv=>rhs; rw [<- List.map_id l]
 exact List.map_congr_left fun x _=>rfl
def aVq : Go.Shelf.Ren where
 f:=fun x=>match x with | 6=>127 | 15=>189 | 14=>188 | 28=>235 | 29=>236 | 20=>227 | 21=>228 | 22=>229 | 23=>230 | 24=>231 | 25=>232 | 26=>233 | 27=>234 | 46=>257 | 47=>258 | 48=>259 | 49=>260 | 50=>261 | 57=>273 | n=>n
 t:=fun x=>match x with | 22=>51 | 24=>22 | 25=>49 | 39=>88 | 53=>248 | 55=>56 | 46=>242 | 45=>241 | 50=>129 | 66=>268 | 70=>272 | 76=>280 | 77=>281 | n=>n
 g:=fun x=>x
theorem aNb : SlLaysF.n6 Tryz.prog aVq where
 mixed:=by kernel_rfl
 f6:=⟨ "slices.SortFunc[[][]uint64,[]uint64]",by decide,Tryz.func127.trans (congrArg some (by kernel_rfl))⟩
 f14:=⟨ "slices.pdqsortCmpFunc[[]uint64]",by decide,Tryz.func188.trans (congrArg some (by kernel_rfl))⟩
 f15:=Tryz.func189.trans (congrArg some (by kernel_rfl))
 f20:=⟨ "slices.insertionSortCmpFunc[[]uint64]",by decide,Tryz.func227.trans (congrArg some (by kernel_rfl))⟩
 f21:=⟨ "slices.heapSortCmpFunc[[]uint64]",by decide,Tryz.func228.trans (congrArg some (by kernel_rfl))⟩
 f22:=⟨ "slices.breakPatternsCmpFunc[[]uint64]",by decide,Tryz.func229.trans (congrArg some (by kernel_rfl))⟩
 f23:=⟨ "slices.choosePivotCmpFunc[[]uint64]",by decide,Tryz.func230.trans (congrArg some (by kernel_rfl))⟩
 f24:=⟨ "slices.reverseRangeCmpFunc[[]uint64]",by decide,Tryz.func231.trans (congrArg some (by kernel_rfl))⟩
 f25:=⟨ "slices.partialInsertionSortCmpFunc[[]uint64]",by decide,Tryz.func232.trans (congrArg some (by kernel_rfl))⟩
 f26:=⟨ "slices.partitionEqualCmpFunc[[]uint64]",by decide,Tryz.func233.trans (congrArg some (by kernel_rfl))⟩
 f27:=⟨ "slices.partitionCmpFunc[[]uint64]",by decide,Tryz.func234.trans (congrArg some (by kernel_rfl))⟩
 f28:=Tryz.func235.trans (congrArg some (by kernel_rfl))
 f29:=Tryz.func236.trans (congrArg some (by kernel_rfl))
 f46:=⟨ "slices.siftDownCmpFunc[[]uint64]",by decide,Tryz.func257.trans (congrArg some (by kernel_rfl))⟩
 f47:=Tryz.func258.trans (congrArg some (by kernel_rfl))
 f48:=Tryz.func259.trans (congrArg some (by kernel_rfl))
 f49:=⟨ "slices.medianAdjacentCmpFunc[[]uint64]",by decide,Tryz.func260.trans (congrArg some (by kernel_rfl))⟩
 f50:=⟨ "slices.medianCmpFunc[[]uint64]",by decide,Tryz.func261.trans (congrArg some (by kernel_rfl))⟩
 f57:=⟨ "slices.order2CmpFunc[[]uint64]",by decide,Tryz.func273.trans (congrArg some (by kernel_rfl))⟩
 t0:=Tryz.underlying0
 a0:=Tryz.isAgg0
 z0:=Tryz.sizeOf0
 v0:=Tryz.zeroValue0
 t3:=Tryz.underlying3
 a3:=Tryz.isAgg3
 z3:=Tryz.sizeOf3
 v3:=Tryz.zeroValue3
 t4:=Tryz.underlying4
 a4:=Tryz.isAgg4
 z4:=Tryz.sizeOf4
 v4:=Tryz.zeroValue4
 t5:=Tryz.underlying5
 a5:=Tryz.isAgg5
 z5:=Tryz.sizeOf5
 v5:=Tryz.zeroValue5
 t9:=Tryz.underlying9
 a9:=Tryz.isAgg9
 z9:=Tryz.sizeOf9
 v9:=Tryz.zeroValue9
 t22:=Tryz.underlying51
 a22:=Tryz.isAgg51
 z22:=Tryz.sizeOf51
 v22:=Tryz.zeroValue51
 a24:=Tryz.isAgg22
 z24:=Tryz.sizeOf22
 t25:=Tryz.underlying49
 a25:=Tryz.isAgg49
 z25:=Tryz.sizeOf49
 v25:=Tryz.zeroValue49
 t39:=Tryz.underlying88
 a39:=Tryz.isAgg88
 z39:=Tryz.sizeOf88
 v39:=Tryz.zeroValue88
 t45:=Tryz.underlying241
 a45:=Tryz.isAgg241
 z45:=Tryz.sizeOf241
 v45:=Tryz.zeroValue241
 t46:=Tryz.underlying242
 a46:=Tryz.isAgg242
 z46:=Tryz.sizeOf242
 v46:=Tryz.zeroValue242
 t50:=Tryz.underlying129
 a50:=Tryz.isAgg129
 z50:=Tryz.sizeOf129
 v50:=Tryz.zeroValue129
 t53:=Tryz.underlying248
 a53:=Tryz.isAgg248
 z53:=Tryz.sizeOf248
 v53:=Tryz.zeroValue248
 t55:=Tryz.underlying56
 a55:=Tryz.isAgg56
 z55:=Tryz.sizeOf56
 v55:=Tryz.zeroValue56
 t66:=Tryz.underlying268
 a66:=Tryz.isAgg268
 z66:=Tryz.sizeOf268
 v66:=Tryz.zeroValue268
 t70:=Tryz.underlying272
 a70:=Tryz.isAgg272
 z70:=Tryz.sizeOf272
 v70:=Tryz.zeroValue272
 t76:=Tryz.underlying280
 a76:=Tryz.isAgg280
 z76:=Tryz.sizeOf280
 v76:=Tryz.zeroValue280
 t77:=Tryz.underlying281
 a77:=Tryz.isAgg281
 z77:=Tryz.sizeOf281
 v77:=Tryz.zeroValue281
def pJ : D->List Int
 | .sl _ els=>els.map fun e=>aA6 (hd e)
 | _=>[]
theorem qU (l:List Int):pJ (.sl 1 (rows .u64 l))= l:=aOf l
theorem aLz {l:List (List Int)} {els:List (List D)} (h:els.Perm (rlu l)):∃ m:List (List Int),els=rlu m/\m.Perm l:=by
 refine⟨els.map fun e=>pJ (hd e),?_,?_⟩
 ·unfold rlu;rw [List.map_map];conv=>lhs; rw [<- List.map_id els]
  refine List.map_congr_left fun e he=>?_;have:=h.mem_iff.1 he;simp only [rlu,List.mem_map] at this;obtain⟨n,_,rfl⟩:=this;show [D.sl 1 (rows .u64 n)] = [D.sl 1 (rows .u64 (pJ (.sl 1 (rows .u64 n))))];rw [qU]
 ·have:=h.map fun e=>pJ (hd e)
  have e:(rlu l).map (fun e=>pJ (hd e))= l:=by
   unfold rlu;rw [List.map_map];conv=>rhs; rw [<- List.map_id l]
   exact List.map_congr_left fun x _=>qU x
  rw [e] at this;exact this
theorem aIt {l:List (List Int)} {i:Nat} (h:i<l.length):pJ (hd ((rlu l).getD i []))= l.getD i []:=by rw [sZ _ h]; exact qU _
theorem aZ6 {σ:St} {key:Nat} {l:List (List Int)} (hget:σ.get key=some ⟨1,rlu l⟩) (hne:l ≠ []) (hlen:l.length<=1000) :
  xX Tryz.prog 127 [.osl key 1 l.length,.fn 124 []] σ (.tup []) (σ.set key ⟨1,rlu (aYz l)⟩):=by
 have ho:uI Tryz.prog 127:=⟨_,Tryz.func127,by kernel_rfl,by kernel_rfl⟩;have ho2:uI Tryz.prog 124:=⟨_,Tryz.func124,by kernel_rfl,by kernel_rfl⟩
 have h:=aLj (P:=Tryz.prog) (ρ:=aVq) aNb ho (g:=124) (C:=fun d=>∃ l:List Int,d = .sl 1 (rows .u64 l)) (cf:=fun x y=>kc (pJ x) (pJ y)) ho2
  (by rintro x y ⟨a,rfl⟩ ⟨b,rfl⟩; rw [qU,qU]; exact lP a b) (by intro x _; rw [aQ2]; omega) (by intro x y z _ _ _ h1 h2; exact aUf h1 h2) (by intro x y z _ _ _ h1 h2; exact nH h1 h2)
  hget (target:=rlu (aYz l)) (by
   intro e he;have hp:=cY l e he;simp only [rlu,List.mem_map] at he;obtain⟨n,hn,rfl⟩:=he;exact⟨_,rfl,by simpa [D.isPureL] using hp,n,rfl⟩) (by rw [wH]; omega) (by intro c; apply hne; simpa [rlu] using c) (by
   intro els' hp hs;obtain⟨m,rfl,hm⟩:=aLz hp;rw [aPf hm (aC3 fun a b hab hb=>?_)];have:=hs a b hab (by rw [wH]; exact hb);change ¬ kc (pJ _) (pJ _)<0 at this;rw [aIt hb,aIt (show a<m.length by omega)] at this;exact this)
 rw [wH] at h;exact h
theorem aP9 {m:List (List Int)} (x:List Int) (hm:asc m) (hl:m.length<=1000):∃ b:Bool,yX Tryz.prog 123 [.sl 1 (rlu m),.sl 1 (rows .u64 x),.fn 124 []] (.tup [.int .i64 (below m x),.bool b]):=by
 refine⟨decide (below m x<m.length)&& decide (kc (m.getD (below m x) []) x=0),?_⟩;refine xX.go_fn mixed Tryz.func123 bY7 (by simp) fun hf=>?_;simp only [ZA,ZB,ZC,ZD,ZE,↓reduceIte,ZF,ZG,ZH,ZI,ZJ,reduceCtorEq,ZK,↓zU,↓zD,zV,zT,zW,wH]
 refine xV (fun a:Nat × Nat=>[(10,.int .i64 a.2),(9,.int .i64 a.1),(8,.int .i64 m.length),(2,.fn 124 []),(1,.sl 1 (rows .u64 x)),(0,.sl 1 (rlu m))]) (fun _=>⟨0,[]⟩) (fun a=>a.1<=a.2/\a.2<=m.length/\(∀ i,i<a.1->kc (m.getD i []) x<0)/\ (∀ i,a.2<=i->i<m.length->¬ kc (m.getD i []) x<0)) (fun a=>a.2-a.1) (0,m.length) ⟨Nat.zero_le _,Nat.le_refl _,fun i hi=>by omega,fun i h1 h2=>by omega⟩ ?_ ?_
 ·(refine xM.same ?_; simp [xR,Fr.get])
 intro ⟨lo,hi⟩ ⟨h1,h2,h3,h4⟩;simp only at h1 h2 h3 h4;refine xQ mixed ?_
 by_cases h:lo<hi
 ·have hd:((lo:Int)<(hi:Int)):=by omega
  have es:IntKind.i64.wrap ((lo:Int)+ (hi:Int))= ((lo+hi:Nat):Int):=by rw [wrap_i64 (by omega)]; omega
  have ew:IntKind.i64.wrap (((lo+hi)/ 2:Nat):Int)= (((lo+hi)/ 2:Nat):Int):=wrap_i64 (by omega);have hmid:(lo+hi)/ 2<m.length:=by omega
  simp only [ZA,ZB,ZC,ZD,ZE,↓reduceIte,ZF,ZG,ZH,ZI,ZJ,reduceCtorEq,ZK,↓zU,↓zD,zV,zT,zW,hd,es,aHn (show lo+hi<=1000000 by omega),aLm (show lo+hi<=1000000 by omega),ew,wH,sZ m hmid]
  (repeat refine sd ?_)
  refine .go (xX.of_runs (lP (m.getD ((lo+hi)/ 2) []) x) (by simp [D.isPureL,D.isPure])) ?_
  by_cases c:kc (m.getD ((lo+hi)/ 2) []) x<0
  ·simp only [ZA,ZB,ZC,ZD,ZE,↓reduceIte,ZF,ZG,ZH,ZI,ZJ,reduceCtorEq,ZK,↓zU,↓zD,zV,zT,zW,c];refine⟨((lo+hi)/ 2+1,hi),⟨by show (lo+hi)/ 2+1<=hi; omega,h2,fun i hi2=>aIz hm (show i<=(lo+hi)/ 2 by change i<(lo+hi)/ 2+1 at hi2; omega) hmid c,h4⟩,?_,by show hi-((lo+hi)/ 2+1)<hi-lo; omega⟩
   (refine xM.same ?_; simp only [xR,Fr.get,↓reduceIte,reduceIte,Nat.reduceEqDiff,reduceCtorEq,D.int.injEq,D.bool.injEq,D.sl.injEq,and_true,true_and,and_self])
   exact wrap_i64 (by omega)
  ·simp only [ZA,ZB,ZC,ZD,ZE,↓reduceIte,ZF,ZG,ZH,ZI,ZJ,reduceCtorEq,ZK,↓zU,↓zD,zV,zT,zW,c];refine⟨(lo,(lo+hi)/ 2),⟨by show lo<=(lo+hi)/ 2; omega,by show (lo+hi)/ 2<=m.length; omega,h3,fun i hi2 hi3 hc=>c (aIz hm hi2 hi3 hc)⟩,?_,by show (lo+hi)/ 2-lo<hi-lo; omega⟩
   (refine xM.same ?_; simp only [xR,Fr.get,↓reduceIte,reduceIte,Nat.reduceEqDiff,reduceCtorEq,D.int.injEq,D.bool.injEq,D.sl.injEq,and_true,true_and,and_self])
 ·have hd:¬ ((lo:Int)<(hi:Int)):=by omega
  have e:below m x=lo:=cF (by omega) h3 fun a ha hb=>h4 a (by omega) hb;rw [e]
  by_cases hlen:lo<m.length
  ·have hd2:((lo:Int)<(m.length:Int)):=by omega
   simp only [ZA,ZB,ZC,ZD,ZE,↓reduceIte,ZF,ZG,ZH,ZI,ZJ,reduceCtorEq,ZK,↓zU,↓zD,zV,zT,zW,hd,hd2,wH,sZ m hlen]
   (repeat refine sd ?_)
   refine .go (xX.of_runs (lP (m.getD lo []) x) (by simp [D.isPureL,D.isPure])) ?_;simp only [ZA,ZB,ZC,ZD,ZE,↓reduceIte,ZF,ZG,ZH,ZI,ZJ,reduceCtorEq,ZK,↓zU,↓zD,zV,zT,zW];exact .drop (by simp) (by simp only [vw,vwL,and_true,D.bool.injEq,true_and,List.length_cons,List.length_nil,decide_eq_true hlen,Bool.true_and]; rfl)
  ·have hd2:¬ ((lo:Int)<(m.length:Int)):=by omega
   simp only [ZA,ZB,ZC,ZD,ZE,↓reduceIte,ZF,ZG,ZH,ZI,ZJ,reduceCtorEq,ZK,↓zU,↓zD,zV,zT,zW,hd,hd2];exact .drop (by simp) (by simp only [vw,vwL,and_true,D.bool.injEq,true_and,List.length_cons,List.length_nil,decide_eq_false hlen,Bool.false_and])
theorem aH9 (l:List (List Int)) (i:Nat) (x:List Int):(rlu l).set i [.sl 1 (rows .u64 x)]=rlu (l.set i x):=by simp [rlu,List.map_set]
def aHb (l:List (List Int)):List (List D):=rlu (dedup l)++ List.replicate (l.length-(dedup l).length) [.nils]
theorem aRc {σ:St} {key:Nat} {l:List (List Int)} (hget:σ.get key=some ⟨1,rlu l⟩) (hlen:l.length<=1000) (hne:l ≠ []) :
  xX Tryz.prog 128 [.osl key 1 l.length,.fn 129 []] σ (.osl key 1 (dedup l).length) (σ.set key ⟨1,aHb l⟩):=by
 obtain⟨nx,objs⟩:=σ;have hpos:0<l.length:=List.length_pos_iff.2 hne;have hg:St.look objs key=some ⟨1,rlu l⟩:=hget
 have whole:dedup l=l->(.osl key 1 (dedup l).length=D.osl key 1 l.length/\(⟨nx,wF objs key ⟨1,aHb l⟩⟩:St)= ⟨nx,objs⟩):=by
  intro e;refine⟨by rw [e],?_⟩;have:aHb l=rlu l:=by unfold aHb; rw [e]; simp
  rw [this,jH hg]
 refine xX.go_fn mixed Tryz.func128 aA4 (by simp) fun hf=>?_
 by_cases h2:l.length<2
 ·have hd:(l.length:Int)<2:=by omega
  simp only [ZA,ZB,ZC,ZD,ZE,↓reduceIte,ZF,ZG,ZH,ZI,ZJ,reduceCtorEq,ZK,↓zU,↓zD,zV,zT,zW,hd]
  have e:dedup l=l:=by
   unfold dedup;rw [nC (Nat.le_refl _) (fun i h1 h3=>by omega),List.take_length]
  obtain⟨e1,e2⟩:=whole e;exact .inl ⟨e1,e2⟩
 have hd:¬ (l.length:Int)<2:=by omega
 simp only [ZA,ZB,ZC,ZD,ZE,↓reduceIte,ZF,ZG,ZH,ZI,ZJ,reduceCtorEq,ZK,↓zU,↓zD,zV,zT,zW,hd]
 refine xV (fun k:Nat=>[(5,.int .i64 k),(1,.fn 129 []),(0,.osl key 1 l.length)]) (fun _=>⟨nx,objs⟩) (fun k=>1<=k/\k<=l.length/\∀ i,0<i->i<k->l.getD i []≠l.getD (i-1) []) (fun k=>l.length-k) 1 ⟨Nat.le_refl _,by omega,fun i h1 h2=>by omega⟩ ?_ ?_
 ·(refine xM.same ?_; simp [xR,Fr.get])
 intro i0 ⟨hi1,hi2,hi3⟩;refine xQ mixed ?_;by_cases h:i0<l.length
 case neg=>
  have hd:¬ ((i0:Int)<(l.length:Int)):=by omega
  have e:dedup l=l:=by
   unfold dedup;rw [nC (Nat.le_refl _) (fun i h1 h3=>hi3 i h1 (by omega)),List.take_length]
  obtain⟨e1,e2⟩:=whole e;simp only [ZA,ZB,ZC,ZD,ZE,↓reduceIte,ZF,ZG,ZH,ZI,ZJ,reduceCtorEq,ZK,↓zU,↓zD,zV,zT,zW,hd];exact .inl ⟨e1,e2⟩
 have hd:((i0:Int)<(l.length:Int)):=by omega
 have em:IntKind.i64.wrap ((i0:Int)-1)= ((i0-1:Nat):Int):=by rw [wrap_i64 (by omega)]; omega
 simp only [ZA,ZB,ZC,ZD,ZE,↓reduceIte,ZF,ZG,ZH,ZI,ZJ,reduceCtorEq,ZK,↓zU,↓zD,zV,zT,zW,hd,hg,sZ l h,em,wH,sZ l (show i0-1<l.length by omega)]
 (repeat refine sd ?_)
 refine .go (xX.of_runs (aIq (l.getD i0 []) (l.getD (i0-1) [])) (by simp [D.isPureL,D.isPure])) ?_;by_cases hq:l.getD i0 []=l.getD (i0-1) []
 case neg=>
  simp only [ZA,ZB,ZC,ZD,ZE,↓reduceIte,ZF,ZG,ZH,ZI,ZJ,reduceCtorEq,ZK,↓zU,↓zD,zV,zT,zW,decide_eq_false hq]
  refine⟨i0+1,⟨by omega,by omega,fun i h1 h3=>?_⟩,?_,by omega⟩
  ·by_cases e:i=i0
   ·rw [e]; exact hq
   ·exact hi3 i h1 (by omega)
  (refine xM.same ?_; simp only [xR,Fr.get,↓reduceIte,reduceIte,Nat.reduceEqDiff,reduceCtorEq,D.int.injEq,D.bool.injEq,D.sl.injEq,and_true,true_and,and_self])
  exact wrap_i64 (by omega)
 simp only [ZA,ZB,ZC,ZD,ZE,↓reduceIte,ZF,ZG,ZH,ZI,ZJ,reduceCtorEq,ZK,↓zU,↓zD,zV,zT,zW,decide_eq_true hq];have ei:¬ (i0:Int)= 0:=by omega
 have ei2:¬ (i0:Int)= (l.length:Int):=by omega
 refine⟨i0,l.length,rfl,rfl,by omega,by omega,by omega,?_⟩;simp only [Int.toNat_natCast,if_neg ei,if_neg ei2];have d1:uH l (i0+1)= l.take i0:=by rw [uH,if_pos ⟨by omega,hq⟩,nC (by omega) hi3]
 refine xV (fun a:Nat × List (List Int)=>[(7,.int .i64 a.1),(6,.sub key 1 i0 (l.length-i0)),(5,.int .i64 (uH l (i0+a.1)).length),(1,.fn 129 []),(0,.osl key 1 l.length)]) (fun a=>⟨nx,wF objs key ⟨1,rlu a.2⟩⟩)
  (fun a=>1<=a.1/\i0+a.1<=l.length/\a.2.length=l.length/\(uH l (i0+a.1)).length<i0+a.1/\a.2.take (uH l (i0+a.1)).length=uH l (i0+a.1)/\ ∀ j,i0+a.1-1<=j->a.2.getD j []=l.getD j []) (fun a=>l.length-a.1) (1,l)
  ⟨Nat.le_refl _,by omega,rfl,by rw [d1,List.length_take]; omega,by rw [d1,List.length_take,Nat.min_eq_left (by omega)],fun j _=>rfl⟩ ?_ ?_
 ·rw [jH hg]
  (refine xM.same ?_; simp [xR,Fr.get,d1])
  omega
 intro ⟨q,o⟩ ⟨q1,q2,q3,q4,q5,q6⟩;simp only at q1 q2 q3 q4 q5 q6;have hlk:∀ ob:Ob,St.look (wF objs key ob) key=some ob:=fun ob=>aXd hg;refine xQ mixed ?_
 by_cases hp:i0+q<l.length
 ·have hd3:((q:Int)<((l.length-i0:Nat):Int)):=by omega
  have eq1:IntKind.i64.wrap ((q:Int)-1)= ((q-1:Nat):Int):=by rw [wrap_i64 (by omega)]; omega
  simp only [ZA,ZB,ZC,ZD,ZE,↓reduceIte,ZF,ZG,ZH,ZI,ZJ,reduceCtorEq,ZK,↓zU,↓zD,zV,zT,zW,hd3,hlk,eq1,wH,sZ o (show i0+q<o.length by omega),sZ o (show i0+(q-1)<o.length by omega)]
  (repeat refine sd ?_)
  refine .go (xX.of_runs (aIq (o.getD (i0+q) []) (o.getD (i0+(q-1)) [])) (by simp [D.isPureL,D.isPure])) ?_;have a1:o.getD (i0+q) []=l.getD (i0+q) []:=q6 _ (by omega);have a2:o.getD (i0+(q-1)) []=l.getD (i0+q-1) []:=by rw [q6 _ (by omega)]; congr 1; omega
  rw [a1,a2]
  by_cases hq2:l.getD (i0+q) []=l.getD (i0+q-1) []
  ·have dd:uH l (i0+(q+1))= uH l (i0+q):=by
    show uH l ((i0+q)+ 1)= _;rw [uH,if_pos ⟨by omega,hq2⟩]
   simp only [ZA,ZB,ZC,ZD,ZE,↓reduceIte,ZF,ZG,ZH,ZI,ZJ,reduceCtorEq,ZK,↓zU,↓zD,zV,zT,zW,decide_eq_true hq2];refine⟨(q+1,o),⟨by show 1<=q+1; omega,by show i0+(q+1)<=l.length; omega,q3,by show (uH l (i0+(q+1))).length<i0+(q+1); rw [dd]; omega,by show o.take (uH l (i0+(q+1))).length=uH l (i0+(q+1)); rw [dd,q5],fun j hj=>q6 j (by change i0+(q+1)-1<=j at hj; omega)⟩,?_,by show l.length-(q+1)<l.length-q; omega⟩
   (refine xM.same ?_; simp only [xR,Fr.get,↓reduceIte,reduceIte,Nat.reduceEqDiff,reduceCtorEq,D.int.injEq,D.bool.injEq,D.sl.injEq,and_true,true_and,and_self,dd])
   exact wrap_i64 (by omega)
  ·have dd:uH l (i0+(q+1))= uH l (i0+q)++ [l.getD (i0+q) []]:=by
    show uH l ((i0+q)+ 1)= _;rw [uH,if_neg (fun c=>hq2 c.2)]
   have dl:(uH l (i0+(q+1))).length=(uH l (i0+q)).length+1:=by rw [dd,List.length_append]; rfl
   simp only [ZA,ZB,ZC,ZD,ZE,↓reduceIte,ZF,ZG,ZH,ZI,ZJ,reduceCtorEq,ZK,↓zU,↓zD,zV,zT,zW,decide_eq_false hq2,hlk,wH,sZ o (show i0+q<o.length by omega),a1]
   (repeat refine sd ?_)
   have c1:(uH l (i0+q)).length<o.length:=by omega
   have eset:(rlu o).set (uH l (i0+q)).length (((rlu o).getD (uH l (i0+q)).length []).set 0 (D.sl 1 (rows .u64 (l.getD (i0+q) []))))= rlu (o.set (uH l (i0+q)).length (l.getD (i0+q) [])):=by
    rw [sZ o c1];exact aH9 _ _ _
   refine⟨(q+1,o.set (uH l (i0+q)).length (l.getD (i0+q) [])),⟨by show 1<=q+1; omega,by show i0+(q+1)<=l.length; omega,by show (o.set _ _).length=_; rw [List.length_set]; exact q3,by show (uH l (i0+(q+1))).length<i0+(q+1); omega,?_,fun j hj=>?_⟩,?_,by show l.length-(q+1)<l.length-q; omega⟩
   ·show (o.set (uH l (i0+q)).length (l.getD (i0+q) [])).take (uH l (i0+(q+1))).length=_;rw [dl,yD (d:=[]) (by rw [List.length_set]; exact c1),aXl,if_pos ⟨rfl,c1⟩,dd,List.take_set_of_le (Nat.le_refl _),q5]
   ·change i0+(q+1)-1<=j at hj;show (o.set (uH l (i0+q)).length (l.getD (i0+q) [])).getD j []=_;rw [aXl,if_neg (by omega)];exact q6 j (by omega)
   ·simp only [jI,eset]
    (refine xM.same ?_; simp only [xR,Fr.get,↓reduceIte,reduceIte,Nat.reduceEqDiff,reduceCtorEq,D.int.injEq,D.bool.injEq,D.sl.injEq,and_true,true_and,and_self,dl])
    exact⟨wrap_i64 (by omega),wrap_i64 (by omega)⟩
 ·have hd3:¬ ((q:Int)<((l.length-i0:Nat):Int)):=by omega
  have ed:uH l (i0+q)= dedup l:=by unfold dedup; rw [show i0+q=l.length by omega]
  have c0:0<(dedup l).length:=by
   have:=aUy l (l.length-1);rw [show l.length-1+1=l.length by omega] at this;exact this
  rw [ed] at q4 q5;simp only [ZA,ZB,ZC,ZD,ZE,↓reduceIte,ZF,ZG,ZH,ZI,ZJ,reduceCtorEq,ZK,↓zU,↓zD,zV,zT,zW,hd3,ed];refine⟨(dedup l).length,l.length,rfl,rfl,by omega,by omega,by omega,?_⟩;rw [if_neg (show ¬ ((dedup l).length:Int)= 0 by omega),if_neg (show ¬ ((dedup l).length:Int)= (l.length:Int) by omega)];simp only [Int.toNat_natCast,hlk,wH,true_and];refine⟨by omega,by omega,?_⟩;refine⟨0,(dedup l).length,rfl,rfl,by omega,by omega,by omega,?_⟩;rw [if_pos rfl];refine .inl ⟨by rw [Int.toNat_natCast],?_⟩;have e2:(rlu o).take (dedup l).length=rlu (dedup l):=by rw [aLx,q5]
  have e3:(rlu o).drop ((dedup l).length+(l.length-(dedup l).length))= []:=List.drop_eq_nil_of_le (by rw [wH]; omega)
  have e4:aHb l=(rlu o).take (dedup l).length++(List.replicate (l.length-(dedup l).length) [D.nils]++(rlu o).drop ((dedup l).length+(l.length-(dedup l).length))):=by
   rw [e2,e3,List.append_nil]; rfl
  rw [e4];simp only [jI]
theorem mJ (l:List (BitVec 64)):us l=rows .u64 (l.map ui):=by simp [us,rows]
end Go.Pd
