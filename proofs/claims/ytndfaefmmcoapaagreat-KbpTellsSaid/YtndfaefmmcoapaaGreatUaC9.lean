/- Part C9. -/
import Derived.Test.YtndfaefmmcoapaaGreatUaC7
import Derived.Test.YtndfaefmmcoapaaGreatUaX9
import Derived.Test.YtndfaefmmcoapaaGreatUaSC
import Derived.Test.YtndfaefmmcoapaaGreatUaKG
import Derived.Test.YtndfaefmmcoapaaGreatUaKI
set_option linter.unusedSectionVars false
set_option linter.unusedVariables false
set_option linter.unusedSimpArgs false
set_option linter.defProp false
set_option maxRecDepth 20000
set_option maxHeartbeats 1000000
namespace Go.Pd
open Go Go.Proofs
open Rs Fm Ru Te
namespace Te
theorem aJg {A F:Nat} {c:List Nd} (hv:zI c) (h:∀ p ∈ c,pJ A F p=true):∀ i,i<c.length->rT A F (tree c i)= true:=by
 intro i
 induction i using Nat.strongRecOn with
 | _ i ih=>
  intro hi;obtain⟨ox,oy,_,_⟩:=uH (hv i hi);have hs:=h (c.getD i nd0) (by rw [List.getD,List.getElem?_eq_getElem hi]; exact List.getElem_mem hi);rw [vV hv hi];show (pJ A F _&&(rT A F _&&rT A F _))= true;rw [show pJ A F ⟨(c.getD i nd0).op,(c.getD i nd0).i,(c.getD i nd0).e,(c.getD i nd0).g,0,0⟩= pJ A F (c.getD i nd0) from rfl,hs,Bool.true_and,Bool.and_eq_true]
  constructor
  ·split
   ·rename_i hx; have:=ox hx; exact ih _ (by omega) (by omega)
   ·rfl
  ·split
   ·rename_i hy; have:=oy hy; exact ih _ (by omega) (by omega)
   ·rfl
theorem aLz {A F:Nat} {p:Nd} {k:Int} (hn:yK p k=0) (ho:okN A F p=true) (ht:sX p &&& 256=0):pJ A F p=true:=by
 unfold okN at ho;simp only [Bool.and_eq_true,decide_eq_true_eq] at ho;obtain⟨⟨h1,h2⟩,h3⟩:=ho
 have hi0:p.op=3\/p.op=9\/p.op=10->0<=p.i:=fun h=>by
  rcases h with h | h | h
  ·exact(mT hn (by rw [h]; rfl)).1
  ·exact(tT hn (by rw [h]; rfl)).1
  ·exact(tT hn (by rw [h]; rfl)).1
 have hg0:=lM hn;have hu:=(wR.1 hn).1
 have lt_of:∀ {a b:Nat},2 ^ a / 2 ^ b=0->a<b:=fun {a b} h=>Decidable.byContradiction fun hh=>by have:=Nat.pow_le_pow_right (n:=2) (by decide) (show b<=a by omega);have:=Nat.div_pos this (Nat.two_pow_pos b);omega
 obtain⟨op,i,e,g,a,b⟩:=p;simp only at hi0 hg0 hu
 rcases uL op with rfl | rfl | rfl | rfl | rfl | rfl | rfl | rfl | rfl | rfl | rfl | rfl | rfl | rfl | rfl | rfl | rfl | rfl | rfl | rfl | rfl | h | h
 ·rfl
 ·rfl
 ·have h3:2 ^ i.toNat / 2 ^ F=0:=h3;have:=lt_of h3;have h0:=hi0 (.inl rfl);show decide (i<(F:Int))= true;exact decide_eq_true (by omega)
 ·rfl
 ·rfl
 ·rfl
 ·rfl
 ·rfl
 ·have h2:2 ^ i.toNat / 2 ^ A=0:=h2;have:=lt_of h2;have h0:=hi0 (.inr (.inl rfl));show decide (i<(A:Int))= true;exact decide_eq_true (by omega)
 ·have h2:2 ^ i.toNat / 2 ^ A=0:=h2;have:=lt_of h2;have h0:=hi0 (.inr (.inr rfl));show decide (i<(A:Int))= true;exact decide_eq_true (by omega)
 iterate 3
  ·have h2:g.toNat / 2 ^ A=0:=h2;have:=(Nat.div_eq_zero_iff.1 h2).resolve_left (by have:=Nat.two_pow_pos A; omega);show decide (g<((2 ^ A:Nat):Int))= true;exact decide_eq_true (by omega)
 ·exact absurd h1 (show ¬ (16:Nat)&&& 3824=0 by decide)
 ·exact absurd h1 (show ¬ (32:Nat)&&& 3824=0 by decide)
 ·exact absurd h1 (show ¬ (64:Nat)&&& 3824=0 by decide)
 ·exact absurd h1 (show ¬ (128:Nat)&&& 3824=0 by decide)
 iterate 4
  ·exact absurd ht (show ¬ (256:Nat)&&& 256=0 by decide)
 ·rw [wT (.inl h)] at hu; cases hu
 ·rw [wT (.inr h)] at hu; cases hu
theorem bWg {a b:Nat} (ha:a<2 ^ 62) (hb:b<2 ^ 62):rB .and .i64 (a:Int) (b:Int)= ((a &&& b:Nat):Int):=by show IntKind.i64.wrap ((BitVec.ofInt 64 (a:Int)&&& BitVec.ofInt 64 (b:Int)).toNat:Int)= _;rw [BitVec.ofInt_natCast,BitVec.ofInt_natCast,BitVec.toNat_and,BitVec.toNat_ofNat,BitVec.toNat_ofNat,Nat.mod_eq_of_lt (by omega),Nat.mod_eq_of_lt (by omega)];have:a &&& b<=a:=Nat.and_le_left;exact wrap_i64 (by omega)
theorem aWa {n:Nat} (h:n<4096):(rB .and .i64 (n:Int) 256 != 0)= !decide (n &&& 256=0):=by
 have e:=bWg (a:=n) (b:=256) (by omega) (by decide);rw [show ((256:Nat):Int)= 256 from rfl] at e;rw [e];generalize n &&& 256=z
 by_cases hz:z=0
 ·subst hz; rfl
 ·rw [decide_eq_false hz];have:((z:Int) != 0)= true:=by rw [bne_iff_ne]; omega
  rw [this]; rfl
theorem aJe {n:Nat} (h:n<4096) (h1:n &&& 3824=0) (h2:n &&& 256=0):(rB .andNot .i64 (n:Int) 15 != 0)= false:=by
 have h16:∀ n:Fin 4096,n.val &&& 3824=0->n.val &&& 256=0->n.val<16:=by decide +kernel
 have:∀ n:Fin 16,(rB .andNot .i64 ((n.val:Nat):Int) 15 != 0)= false:=by decide +kernel
 exact this ⟨n,h16 ⟨n,h⟩ h1 h2⟩
theorem lK (f:List Nd):zF f<4096:=by refine qV fun p _=>?_;have:=jU p.op;unfold sX; omega
theorem aU2 {s:pF} {A F T:Nat} {rs:List zG} (hs:s=⟨A,F,T,rs⟩) (hz:chk s=0) (ok:OkR rs A F T) {f:List Nd} (hE:aO0 s f=0) (ht:zF f &&& 256=0) :
  rT A F (uV f)= true/\(rB .andNot .i64 (zF f:Int) 15 != 0)= false/\rU f A F=true:=by
 have hc:=(oE hE).2;have hN:=(aMa hs hz ok hc).1 hE
 have hT:∀ p ∈ xE f,sX p &&& 256=0:=by
  have:=ht;unfold zF at this
  rwa [qS (φ:=fun n=>n &&& 256) (by decide) (fun a b=>Nat.and_or_distrib_right a b 256),rY] at this
 have h38:zF f &&& 3824=0:=by unfold zF;rw [qS (φ:=fun n=>n &&& 3824) (by decide) (fun a b=>Nat.and_or_distrib_right a b 3824),rY];intro p hp;have:=hN p hp;unfold okN at this;simp only [Bool.and_eq_true,decide_eq_true_eq] at this;exact this.1.1
 refine⟨?_,aJe (lK f) h38 ht,?_⟩
 ·have hl:=nO hc;rw [<- (rL hc).1];refine aJg (iQ f) (fun p hp=>?_) _ (by omega);obtain⟨k,hk⟩:=lU (iP f _) hp;exact aLz hk (hN p hp) (hT p hp)
 ·unfold aO0 at hE;rw [if_neg (by simpa using hz),if_neg (by simpa using hc),aX3 (lK f),if_neg (by simp [h38])] at hE;subst hs
  cases hf:rU f A F with
  | true=>rfl
  | false=>simp only [hf,↓reduceIte] at hE; cases hE
end Te
namespace Kb
theorem bZz : ∀ n:Fin 4096,(rB .andNot .i64 ((n.val:Nat):Int) 15 != 0)= false->n.val<16:=by decide +kernel
theorem bV2 : ∀ n:Fin 4096,(rB .andNot .i64 ((n.val:Nat):Int) 0 != 0)= false->n.val=0:=by decide +kernel
end Kb
open Ru
def bX7 (l:List Int):Nat->List Int
 | 0=>[]
 | k+1=>if 0<k/\l.getD k 0=l.getD (k-1) 0 then bX7 l k else bX7 l k ++ [l.getD k 0]
def bUw (l:List Int):List Int:=bX7 l l.length
namespace Ru
def aOs (rs:List zG) (a r t:Nat):List Int:=(List.range t).map fun i=>wE rs a (r,i)
def bWy (rs:List zG) (a:Nat) (p:Nat × Nat):List Int:=bUw (aOs rs a p.1 (p.2+1))
theorem aFf (rs:List zG) (a r t:Nat):(aOs rs a r t).length=t:=by simp [aOs]
end Ru
end Go.Pd

/- Part SH. -/
namespace Go.Pd
open Go Go.Proofs
open BitVec renaming isValue -> ZA
open Ru
namespace Ru
theorem eM {α:Type} (a b:List α) (d:α) {n:Nat} (h:n<a.length):(a++b).getD n d=a.getD n d:=by simp [List.getD,List.getElem?_append_left h]
end Ru
theorem aAn {c:List (BitVec 64)} (hc:c.length<=1000) (h0:0<c.length):yU Tryz.prog 122 [.sl 1 (us c)] (.sl 1 (us c)):=by
 obtain⟨x,l,rfl⟩:∃ x l,c=x :: l:=by
  cases c with
  | nil=>simp at h0
  | cons x l=>exact⟨x,l,rfl⟩
 refine xX.xQ mixed Tryz.func122 bUs (by simp) fun hf=>?_;have hl:(us (x :: l)).length=l.length+1:=by simp [us]
 have h1:=aNg (x :: l);have e:us (x :: l)= [.int .u64 (ui x)] :: us l:=rfl;simp only [List.length_cons] at hc;rw [e] at hl h1 ⊢;simp only [simprocAttr,-ZA,↓zU,↓zD,zV,zT,zW];refine⟨by simp,h1,by omega,by omega,.drop (by simp) ?_⟩;have hp:=tE (x :: l);rw [e] at hp;have ht:([D.int .u64 (ui x)] :: us l).take (l.length+1)= [D.int .u64 (ui x)] :: us l:=by rw [<- hl,List.take_length]
 simp only [vw];exact⟨trivial,by decide,by simp,⟨1,[D.int .u64 (ui x)] :: us l⟩,rfl,rfl,by simp only; omega,ht.symm,hp⟩
open Ru
namespace Ru
def aO8 (kf:Nat->Nat × Nat->List Int) (l:List (Nat × Nat)) (a:Nat) (p:Nat × Nat):Int:=below (dedup (aYr (l.map (kf a)))) (kf a p)
def aDq (rs:List zG) (A T:Nat) (num:Nat->Nat × Nat->Int):List zG:=(List.range rs.length).map fun i=>⟨(List.range T).map fun t=>(List.range A).map fun a=>num a (i,t),(rs.getD i qK).fac⟩
end Ru
open Ru
namespace Ru
end Ru
open Ru
theorem gK {l:List (List Int)}:∀ {k:Nat} {x:List Int},x ∈ sW l k ↔ ∃ i,i<k/\l.getD i []=x
 | 0,x=>by simp [sW]
 | k+1,x=>by
  rw [sW]
  by_cases h:0<k/\l.getD k []=l.getD (k-1) []
  ·rw [if_pos h,gK];refine⟨fun⟨i,hi,e⟩=>⟨i,by omega,e⟩,fun⟨i,hi,e⟩=>?_⟩
   by_cases ei:i=k
   ·exact⟨k-1,by omega,by rw [<- h.2,<- ei]; exact e⟩
   ·exact⟨i,by omega,e⟩
  ·rw [if_neg h,List.mem_append,gK,List.mem_singleton];refine⟨fun c=>c.elim (fun⟨i,hi,e⟩=>⟨i,by omega,e⟩) (fun e=>⟨k,by omega,e.symm⟩),fun⟨i,hi,e⟩=>?_⟩
   by_cases ei:i=k
   ·exact .inr (by rw [<- e,ei])
   ·exact .inl ⟨i,by omega,e⟩
theorem aNq {l:List (List Int)} (h:asc l) {i j:Nat} (hij:i<j) (hj:j<l.length):¬ kc (l.getD j []) (l.getD i [])<0:=by have:=List.pairwise_iff_getElem.1 h i j (by omega) hj hij;simpa [List.getD,hj,show i<l.length by omega] using this
theorem mI {l:List (List Int)} (h:asc l):∀ {k:Nat},k<=l.length->(sW l k).Pairwise fun a b=>kc a b<0
 | 0,_=>List.Pairwise.nil
 | k + 1,hk=>by
  rw [sW]
  by_cases c:0<k/\l.getD k []=l.getD (k-1) []
  ·rw [if_pos c]; exact mI h (by omega)
  ·rw [if_neg c];refine List.pairwise_append.2 ⟨mI h (by omega),List.pairwise_singleton _ _,fun x hx y hy=>?_⟩;rw [List.mem_singleton] at hy;subst hy;obtain⟨i,hi,rfl⟩:=gK.1 hx;have h1:=aNq h hi (show k<l.length by omega)
   by_cases e:kc (l.getD i []) (l.getD k [])<0
   ·exact e
   ·exfalso;have eq:l.getD i []=l.getD k []:=aUj h1 e
    by_cases e2:i=k-1
    ·exact c ⟨by omega,by rw [<- eq,e2]⟩
    ·have h2:=aNq h (show i<k-1 by omega) (show k-1<l.length by omega);have h3:=aNq h (show k-1<k by omega) (show k<l.length by omega);rw [eq] at h2;exact c ⟨by omega,aUj h3 h2 |>.symm⟩
theorem aJl {l:List (List Int)} (h:asc l):asc (dedup l):=by have:=mI h (Nat.le_refl l.length);exact this.imp fun {a b} h=>by have:=oT a b; omega
theorem aWm {l:List (List Int)} {x:List Int}:x ∈ dedup l ↔ x ∈ l:=by
 unfold dedup;rw [gK]
 constructor
 ·rintro ⟨i,hi,rfl⟩; exact xK hi
 ·intro h;obtain⟨i,hi,e⟩:=List.mem_iff_getElem.1 h;exact⟨i,hi,by simp [List.getD,hi,e]⟩
open Ru
theorem jO {rs:List zG} {A F T:Nat} (ok:OkR rs A F T):chk ⟨A,F,T,rs⟩= 0:=by
 obtain⟨h1,h2,h3,h4,h5,h6,h7,h8,h9⟩:=ok;unfold chk;simp only;have hp:((rs.length*T:Nat):Int)<=512:=by omega
 rw [Int.natCast_mul] at hp
 rw [if_neg (by omega),if_neg (by omega),if_neg (by omega),if_neg,if_neg]
 ·rw [Bool.not_eq_true,List.any_eq_false];intro r hr;simp only [aIl,Int.toNat_natCast,List.any_eq_true,not_exists,not_and];intro f hf;simp [h9 r hr f hf]
 ·rw [Bool.not_eq_true,List.any_eq_false];intro r hr;have hrow:=h8 r hr;simp only [aVo,h6 r hr,h7 r hr,decide_true,Bool.not_true,Bool.false_or,List.any_eq_true,not_exists,not_and];intro l hl;simp [hrow l hl]
open Ru
namespace Ru
def aDr (rs:List zG) (A T:Nat) (kf:Nat->Nat × Nat->List Int):List zG:=aDq rs A T (aO8 kf (ptN T (rs.length*T)))
theorem aH8 (rs:List zG) (A T:Nat) (num:Nat->Nat × Nat->Int):(aDq rs A T num).length=rs.length:=by simp [aDq]
theorem aSq {rs:List zG} {A T:Nat} {num:Nat->Nat × Nat->Int} {i:Nat} (h:i<rs.length):(aDq rs A T num).getD i qK=⟨(List.range T).map fun t=>(List.range A).map fun a=>num a (i,t),(rs.getD i qK).fac⟩:=by simp [aDq,List.getD,h]
theorem aSp {rs:List zG} {A T:Nat} {num:Nat->Nat × Nat->Int} {a:Nat} {p:Nat × Nat} (ha:a<A) (hp:p.1<rs.length/\p.2<T):wE (aDq rs A T num) a p=num a p:=by unfold wE;rw [aSq hp.1];simp [List.getD,hp.2,ha]
theorem filter_le {p q:List Int->Bool}:∀ {m:List (List Int)},(∀ y ∈ m,p y=true->q y=true)->(m.filter p).length<=(m.filter q).length
 | [],_=>Nat.le_refl _
 | y :: m,h=>by
  have ih:=filter_le (p:=p) (q:=q) (m:=m) fun z hz=>h z (List.mem_cons_of_mem _ hz);have h0:=h y (by simp);rw [List.filter_cons,List.filter_cons]
  cases hp:p y
  ·cases hq:q y
   ·simpa using ih
   ·simp; omega
  ·rw [h0 hp]; simpa using ih
theorem filter_lt {p q:List Int->Bool} {x:List Int}:∀ {m:List (List Int)},(∀ y ∈ m,p y=true->q y=true)->x ∈ m->p x=false->q x=true->(m.filter p).length<(m.filter q).length
 | [],_,hx,_,_=>by cases hx
 | y :: m,h,hx,hp,hq=>by
  have h':∀ z ∈ m,p z=true->q z=true:=fun z hz=>h z (List.mem_cons_of_mem _ hz);rw [List.filter_cons,List.filter_cons]
  rcases List.mem_cons.1 hx with e | e
  ·subst e;have:=filter_le h';rw [hp,hq];simp; omega
  ·have ih:=filter_lt h' e hp hq;have h0:=h y (by simp)
   cases hpy:p y
   ·cases hqy:q y
    ·simpa using ih
    ·simp; omega
   ·rw [h0 hpy]; simpa using ih
theorem aRz {m:List (List Int)} {x y:List Int} (hx:x ∈ m) (h:kc x y<0):below m x<below m y:=by unfold below;refine filter_lt (x:=x) (fun z _ hz=>?_) hx (by rw [aMo]; rfl) (by simpa using h);have:=of_decide_eq_true hz;exact decide_eq_true (aX0 this h)
theorem aJ2 {m:List (List Int)} {x y:List Int} (hx:x ∈ m) (hy:y ∈ m):below m x=below m y ↔ x=y:=by
 refine⟨fun h=>?_,fun h=>by rw [h]⟩;have a:=oT x y
 by_cases h1:kc x y<0
 ·have:=aRz hx h1; omega
 ·by_cases h2:kc y x<0
  ·have:=aRz hy h2; omega
  ·exact aXa (by omega)
theorem aMd {T R:Nat} {p:Nat × Nat} (hp:p.1<R/\p.2<T):p ∈ ptN T (R*T):=by obtain⟨r,t⟩:=p;simp only at hp;simp only [ptN,List.mem_map,List.mem_range];have hm:=Nat.mul_le_mul_right T (show r+1<=R from hp.1);rw [Nat.succ_mul] at hm;refine⟨r*T+t,by omega,?_⟩;rw [Nat.mul_comm,Nat.mul_add_div (by omega),Nat.div_eq_of_lt hp.2,Nat.mul_add_mod,Nat.mod_eq_of_lt hp.2];rfl
theorem aMn {kf:Nat->Nat × Nat->List Int} {T R a:Nat} {p:Nat × Nat} (hp:p.1<R/\p.2<T):kf a p ∈ dedup (aYr ((ptN T (R*T)).map (kf a))):= aWm.2 ((qT _).mem_iff.2 (List.mem_map_of_mem (aMd hp)))
theorem aGd {kf:Nat->Nat × Nat->List Int} {T R a:Nat} {p q:Nat × Nat} (hp:p.1<R/\p.2<T) (hq:q.1<R/\q.2<T):aO8 kf (ptN T (R*T)) a p=aO8 kf (ptN T (R*T)) a q ↔ kf a p=kf a q:=by unfold aO8;rw [<- aJ2 (aMn hp) (aMn hq)];omega
theorem aGa (rs:List zG) (A T:Nat) (kf:Nat->Nat × Nat->List Int):(aDr rs A T kf).length=rs.length:=aH8 _ _ _ _
theorem aH9 {rs:List zG} {A T:Nat} {kf:Nat->Nat × Nat->List Int} {a:Nat} {p q:Nat × Nat} (ha:a<A) (hp:p.1<rs.length/\p.2<T) (hq:q.1<rs.length/\q.2<T):wE (aDr rs A T kf) a p=wE (aDr rs A T kf) a q ↔ kf a p=kf a q:=by unfold aDr;rw [aSp ha hp,aSp ha hq,aGd hp hq]
end Ru
open Rs Fm Ru Te Kb
namespace Kb
theorem fI {rs:List zG} {A F T:Nat} (ok:OkR rs A F T) {f:List Nd} (hc:xC f=0) (hfr:(rB .andNot .i64 (zF f:Int) 15 != 0)= false) (hft:rU f A F=true):rT A F (uV f)= true:=by
 have h16:zF f<16:=bZz ⟨zF f,lK f⟩ hfr;have ha:∀ n:Fin 16,n.val &&& 3824=0/\n.val &&& 256=0:=by decide
 have hE:aO0 ⟨A,F,T,rs⟩ f=0:=by unfold aO0;rw [if_neg (by simpa using jO ok),if_neg (by simpa using hc),aX3 (lK f),if_neg (by simp [(ha ⟨zF f,h16⟩).1])];simp only;rw [if_neg (by rw [hft]; simp)]
 exact(aU2 rfl (jO ok) ok hE (ha ⟨zF f,h16⟩).2).1
theorem aMv {p:PrA} {f:List Nd} {fr:Int} (h:fmE p f fr=0):xC f=0/\(rB .andNot .i64 (zF f:Int) fr != 0)= false/\rU f p.see.length p.F=true:=by
 unfold fmE at h
 by_cases h1:xC f=0
 ·rw [if_neg (by simpa using h1)] at h
  cases h2:(rB .andNot .i64 (zF f:Int) fr != 0) with
  | true=>rw [h2,if_pos rfl] at h; cases h
  | false=>
   rw [h2,if_neg (by simp)] at h
   cases h3:rU f p.see.length p.F with
   | true=>exact⟨h1,rfl,rfl⟩
   | false=>rw [h3] at h; cases h
 ·rw [if_pos h1] at h; exact absurd h h1
structure PlG (p : PrA) (F : Nat) (sts : List (List (BitVec 64))) (t : Nat) : Prop where
 fe:p.F=(F:Int)
 hF:F<=8
 hA:1<=p.see.length/\p.see.length<=4
 hR:1<=sts.length/\sts.length<=16
 len:∀ st ∈ sts,t<st.length
 ht:t<=1000
 val:∀ st ∈ sts,∀ s ∈ st,s >>> F=0#64
theorem PlG.ok {p:PrA} {F:Nat} {sts:List (List (BitVec 64))} {t:Nat} (h:PlG p F sts t):bU0 p F sts t:=⟨h.fe,h.hF,h.hA.2,by have:=h.hR.2; omega,h.len,h.ht⟩
theorem PlG.time {p:PrA} {F:Nat} {sts:List (List (BitVec 64))} {t:Nat} (h:PlG p F sts t):OkR (vM p.see sts t) p.see.length F 1:= aCq h.hA.2 h.hF ⟨h.hR.1,by have:=h.hR.2; omega⟩ fun w hw=>h.val _ (xK hw) _ (xK (h.len _ (xK hw)))
def bW5 (see:List (BitVec 64)) (sts:List (List (BitVec 64))) (t:Nat) (f:List Nd) (v:Nat):Bool:=evT (vM see sts t) see.length 1 (uV f) (v,0)
def knT (see:List (BitVec 64)) (sts:List (List (BitVec 64))) (t a:Nat) (f:List Nd) (w:Nat):Bool:=(List.range sts.length).all fun v=>!decide (sR see (stR sts v) a t=sR see (stR sts w) a t) || bW5 see sts t f v
def bWq (see:List (BitVec 64)) (sts:List (List (BitVec 64))) (t:Nat) (f:List Nd):BitVec 64:=pH 1 sts.length (evT (vM see sts t) see.length 1 (uV f))
def sQ (see:List (BitVec 64)) (sts:List (List (BitVec 64))) (t a w:Nat):List ClA->Int
 | []=>-1
 | c :: r=>if knT see sts t a c.test w=true then c.mv else sQ see sts t a w r
def jY (p:PrA) (sts:List (List (BitVec 64))) (t a w:Nat):Int:=sQ p.see sts t a w (p.code.getD a [])
def vW (p:PrA) (sts:List (List (BitVec 64))) (t:Nat):List (List Int):=(List.range p.see.length).map fun a=>(List.range sts.length).map fun w=>jY p sts t a w
def rA (A:Nat) (s:BitVec 64):List zG:=[⟨[List.replicate A 0],[s]⟩]
def bW6 (A:Nat) (f:List Nd) (s:BitVec 64):Bool:=evT (rA A s) A 1 (uV f) (0,0)
def aO4 (A:Nat) (s0:BitVec 64) (out:BitVec 64) (a:AsA):BitVec 64:=out &&& ~~~(1#64 <<< a.fact.toNat) ||| (if bW6 A a.to s0=true then 1#64 <<< a.fact.toNat else 0#64)
def aTz (p:PrA) (s0:BitVec 64) (out:BitVec 64) (k:Int):BitVec 64:=if k<0 then out else(p.xN.getD k.toNat []).foldl (aO4 p.see.length s0) out
def bXh (p:PrA) (s0:BitVec 64) (mv:List Int):BitVec 64:=mv.foldl (aTz p s0) s0
theorem aCt {A F:Nat} {s:BitVec 64} (hA:A<=4) (hF:F<=8) (hs:s >>> F=0#64):OkR (rA A s) A F 1 where
 hA:=hA
 hF:=hF
 hT:=⟨by omega,by omega⟩
 hR:=⟨by simp [rA],by simp [rA]⟩
 hP:=by simp [rA]
 loc:=fun r hr=>by simp only [rA,List.mem_singleton] at hr; subst hr; rfl
 fac:=fun r hr=>by simp only [rA,List.mem_singleton] at hr; subst hr; rfl
 row:=fun r hr l hl=>by simp only [rA,List.mem_singleton] at hr; subst hr;simp only [List.mem_singleton] at hl; subst hl;simp
 val:=fun r hr x hx=>by simp only [rA,List.mem_singleton] at hr; subst hr;simp only [List.mem_singleton] at hx; subst hx;exact hs
end Kb
theorem aB8 {p:PrA} {F:Nat} {sts:List (List (BitVec 64))} {t:Nat} (h:PlG p F sts t) {f:List Nd} (hE:fmE p f 15=0):yU Tryz.prog 54 [aIn p.see sts t F,.sl 6 (ndR f)] (.tup [.int .u64 (ui (bWq p.see sts t f)),.int .i64 0]):=by
 obtain⟨h1,h2,h3⟩:=aMv hE;rw [h.fe] at h3;have ok:=h.time;have hl:(vM p.see sts t).length*1=sts.length:=by rw [lA,Nat.mul_one]
 have hh:=aX9 ok (by rw [hl]; have:=h.hR.2; omega) h1 h2 h3;unfold aTv at hh;rw [if_pos (fI ok h1 h2 h3),hl,aHe] at hh;exact hh
theorem aHs {p:PrA} {F:Nat} {sts:List (List (BitVec 64))} {t:Nat} (h:PlG p F sts t) {a w:Nat} (ha:a<p.see.length) (hw:w<sts.length) (f:List Nd) :
  (Ru.gG (vM p.see sts t) (yM sts.length 0) a (wE (vM p.see sts t) a (w,0)) sts.length &&& ~~~bWq p.see sts t f==0#64)= knT p.see sts t a f w:=by
 have hR:=h.hR.2;rw [Bool.eq_iff_iff,aN6];unfold knT bWq;simp only [List.all_eq_true,List.mem_range]
 constructor
 ·intro hh v hv
  by_cases e:sR p.see (stR sts v) a t=sR p.see (stR sts w) a t
  ·have h1:=hh v (by omega);rw [lQ _ _ (by omega),sH hv,yV (by omega)] at h1;have h2:=(aXj (t:=t) ha hv hw).2 e;simp only [decide_eq_true hv,decide_eq_true h2,Bool.true_and,true_implies] at h1;unfold bW5;rw [decide_eq_true e,show pt 1 v=(v,0) by unfold pt; rw [Nat.div_one,Nat.mod_one]] at *;rw [h1]; rfl
  ·rw [decide_eq_false e]; rfl
 ·intro hh v hv hb;rw [lQ _ _ (by omega)] at hb;simp only [Bool.and_eq_true,decide_eq_true_eq] at hb;obtain⟨hv2,hb⟩:=hb;rw [sH hv2] at hb;have h1:=hh v hv2;rw [decide_eq_true ((aXj (t:=t) ha hv2 hw).1 hb)] at h1;rw [yV (by omega),decide_eq_true hv2,show pt 1 v=(v,0) by unfold pt; rw [Nat.div_one,Nat.mod_one]];simpa [bW5] using h1
end Go.Pd
