/- Part E1. -/
import Derived.Test.YtndfaefmmcoapaaGreatUdQA
import Derived.Test.YtndfaefmmcoapaaGreatUdKG
set_option linter.unusedSectionVars false
set_option linter.unusedVariables false
set_option linter.unusedSimpArgs false
set_option linter.defProp false
set_option maxRecDepth 20000
set_option maxHeartbeats 1000000
namespace Go.Pd
open Go Go.Proofs
open Rs Fm Ru Te
namespace Te
def pt (T p:Nat):Nat × Nat:=(p / T,p % T)
theorem aD0 {l:List Bool} {p:Nat} (h:p<l.length):(rbR l).getD p [] = [.bool (l.getD p false)]:=by simp [rbR,List.getD,h]
def aF (rs:List xD) (g:Nat) (m:Bool) (p q:Nat × Nat) (a:Nat):Bool:=(List.range a).all fun b=>!g.testBit b || (decide (yQ rs b p=yQ rs b q)== m)
end Te
open Ru
namespace Ru
def iZ (rs:List xD) (l:List (Nat × Nat)) (A F:Nat):nI:=⟨(l.length:Int),aH rs l F,mA rs l A⟩
def vA (R t:Nat):List (Nat × Nat):=(List.range R).map fun r=>(r,t)
theorem aZu (R t:Nat):(vA R t).length=R:=by simp [vA]
theorem rU {k:Nat} (hk:k<64) (i:Nat):(1#64 <<< k).getLsbD i=decide (i=k):=by
 by_cases hi:i<64
 ·have:∀ k,k<64->∀ i,i<64->(1#64 <<< k).getLsbD i=decide (i=k):=by decide
  exact this k hk i hi
 ·rw [BitVec.getLsbD_of_ge _ _ (by omega)];exact(decide_eq_false (by omega)).symm
theorem aXt {rs:List xD} {l:List (Nat × Nat)} {f:Nat}:∀ (k i:Nat),k<=64->(cR rs l f k).getLsbD i=(decide (i<k)&& (aO9 rs (l.getD i (0,0))).getLsbD f)
 | 0,i,_=>by simp [cR]
 | k+1,i,hk=>by
  unfold cR;rw [BitVec.getLsbD_or,aXt k i (by omega)]
  by_cases e:i=k
  ·subst e
   cases hb:(aO9 rs (l.getD i (0,0))).getLsbD f
   ·simp
   ·rw [if_pos rfl,rU (by omega)];simp
  ·have h2:(if (aO9 rs (l.getD k (0,0))).getLsbD f=true then 1#64 <<< k else 0#64).getLsbD i=false:=by
    split
    ·rw [rU (by omega)]; exact decide_eq_false e
    ·exact BitVec.getLsbD_zero
   rw [h2,Bool.or_false];congr 1;rw [Bool.eq_iff_iff,decide_eq_true_iff,decide_eq_true_iff]; omega
theorem lN {rs:List xD} {l:List (Nat × Nat)} {a:Nat} {x:Int}:∀ (k i:Nat),k<=64->(aF rs l a x k).getLsbD i=(decide (i<k)&& decide (yQ rs a (l.getD i (0,0))= x))
 | 0,i,_=>by simp [aF]
 | k+1,i,hk=>by
  unfold aF;rw [BitVec.getLsbD_or,lN k i (by omega)]
  by_cases e:i=k
  ·subst e
   by_cases hb:yQ rs a (l.getD i (0,0))= x
   ·rw [if_pos hb,rU (by omega),decide_eq_true hb];simp
   ·rw [if_neg hb,decide_eq_false hb];simp
  ·have h2:(if yQ rs a (l.getD k (0,0))= x then 1#64 <<< k else 0#64).getLsbD i=false:=by
    split
    ·rw [rU (by omega)]; exact decide_eq_false e
    ·exact BitVec.getLsbD_zero
   rw [h2,Bool.or_false];congr 1;rw [Bool.eq_iff_iff,decide_eq_true_iff,decide_eq_true_iff]; omega
theorem aUy {rs:List xD} {A F T:Nat} (ok:OkR rs A F T) {l:List (Nat × Nat)} (h1:1<=l.length) (h2:l.length<=64):lW (iZ rs l A F) l.length where
 w:=rfl
 hW:=⟨h1,h2⟩
 hV:=by have:=ok.hF; simp [iZ,aH]; exact this
 hR:=by have:=ok.hA; simp [iZ,mA]; exact this
 row:=fun r hr=>by simp only [iZ,mA,List.mem_map] at hr;obtain⟨a,_,rfl⟩:=hr;simp [kE]
 val:=fun x hx=>by simp only [iZ,aH,List.mem_map] at hx;obtain⟨f,_,rfl⟩:=hx;refine aUs h2 fun i hi=>?_;rw [aXt _ _ h2,Bool.and_eq_true] at hi;exact of_decide_eq_true hi.1
 rel:=fun r hr x hx=>by simp only [iZ,mA,List.mem_map] at hr;obtain⟨a,_,rfl⟩:=hr;simp only [kE,List.mem_map] at hx;obtain⟨p,_,rfl⟩:=hx;refine aUs h2 fun i hi=>?_;rw [lN _ _ h2,Bool.and_eq_true] at hi;exact of_decide_eq_true hi.1
end Ru
end Go.Pd

/- Part E8. -/
namespace Go.Pd
open Go Go.Proofs
open BitVec renaming isValue -> ZA
open Rs Fm Ru Te
namespace Te
theorem drop_one {α:Type} {l:List α} {d:α} {k:Nat} (h:k<l.length):l.drop k=l.getD k d :: l.drop (k+1):=by rw [List.drop_eq_getElem_cons h]; simp [List.getD,h]
end Te
namespace Te
def btR (l:List (List Bool)):List (List D):=l.map fun r=>[.sl 1 (rbR r)]
theorem aLn (l:List (List Bool)):(btR l).length=l.length:=by simp [btR]
theorem bXs {l:List (List Bool)} {i:Nat} (h:i<l.length):(btR l).getD i [] = [.sl 1 (rbR (l.getD i []))]:=by simp [btR,List.getD,h]
def iP (s:tZ) (f:List Nd):List (List Bool):=if kF s f≠0 then [] else(List.range s.rs.length).map fun i=>(List.range s.ln.toNat).map fun t=>aQ8 s.rs s.ag.toNat s.ln.toNat f (i,t)
theorem aJt (s:tZ) (f:List Nd):bZ s f=btR (iP s f):=by
 unfold bZ iP
 split
 ·rfl
 ·simp [btR,zM]
theorem aVp (s:tZ) (f:List Nd):(iP s f).length<=64/\∀ r ∈ iP s f,r.length<=16:=by
 unfold iP
 by_cases h:kF s f=0
 ·rw [if_neg (by simpa using h)];obtain⟨A,F,T,rs,rfl,ok⟩:=aXn (oG h).1;refine⟨by simp; exact ok.hR.2,fun r hr=>?_⟩;simp only [List.mem_map,List.mem_range] at hr;obtain⟨i,_,rfl⟩:=hr;simp;exact ok.hT.2
 ·rw [if_pos h]; simp
def lV (s:tZ) (f:List Nd):Bool:=decide (kF s f=0)&& (iP s f).all fun r=>r.all fun b=>b
end Te
theorem aLt (s:tZ) (f:List Nd):yB Tryz.prog 49 [s.d,.sl 6 (ndR f)] (.tup [.bool (lV s f),.int .i64 (kF s f)]):=by
 have hD:s.d = .agg [.int .i64 s.ag,.int .i64 s.fa,.int .i64 s.ln,.sl 2 (vF s.rs)]:=rfl;have hH:=aTc s f;obtain⟨l64,l16⟩:=aVp s f;rw [aJt] at hH;unfold lV;rw [hD] at hH ⊢;by_cases hE:kF s f=0
 case neg=>
  have e:(kF s f != 0)= true:=by simpa using hE
  refine xY.xR mixed Tryz.func49 k49 (by simp) fun hf=>?_;simp only [simprocAttr,-ZA,↓zU,↓zD,zV,zT,zW]
  (repeat refine sd ?_)
  refine .go (cr hH) ?_;simp only [simprocAttr,-ZA,↓zU,↓zD,zV,zT,zW,e];exact .drop (by simp) (by simp [vw,vwL,hE])
 rw [hE] at hH ⊢;rw [decide_eq_true rfl,Bool.true_and];generalize iP s f=l at hH l64 l16;refine xY.xR mixed Tryz.func49 k49 (by simp) fun hf=>?_;simp only [simprocAttr,-ZA,↓zU,↓zD,zV,zT,zW]
 (repeat refine sd ?_)
 refine .go (cr hH) ?_;simp only [simprocAttr,-ZA,↓zU,↓zD,zV,zT,zW,aLn]
 refine xQ (fun i:Nat=>[(23,.int .i64 i),(22,.int .i64 l.length),(21,.sl 1 (btR l))]) (fun _=>⟨0,[]⟩) (fun i=>i<=l.length/\(l.all fun r=>r.all fun b=>b)= ((l.drop i).all fun r=>r.all fun b=>b)) (fun i=>l.length-i) 0 ⟨Nat.zero_le _,rfl⟩ ?_ ?_
 ·(refine xM.view (fun k=>k) (by simp) (by simp) ?_ (by simp [stays]) (by simp [uU]); simp [vwF,vw,vwL,Fr.get])
 rintro i ⟨hi,hk⟩;refine xN mixed ?_;by_cases hil:i<l.length
 case neg=>
  have hd:¬ ((i:Int)<(l.length:Int)):=by omega
  rw [List.drop_eq_nil_of_le (by omega),List.all_nil] at hk;rw [hk];simp only [simprocAttr,-ZA,↓zU,↓zD,zV,zT,zW,hd];exact .drop (by simp) (by simp [vw,vwL])
 have hd:((i:Int)<(l.length:Int)):=by omega
 have hg:=bXs hil;have h16:=l16 _ (xS (d:=[]) hil);rw [drop_one (d:=[]) hil,List.all_cons] at hk;generalize l.getD i []=r at hg h16 hk;simp only [simprocAttr,-ZA,↓zU,↓zD,zV,zT,zW,hd,aLn,hg,wZ]
 (repeat refine sd ?_)
 refine xQ (fun t:Nat=>[(29,.int .i64 t),(28,.int .i64 r.length),(27,.sl 1 (rbR r)),(23,.int .i64 i),(22,.int .i64 l.length),(21,.sl 1 (btR l))]) (fun _=>⟨0,[]⟩) (fun t=>t<=r.length/\(r.all fun b=>b)= ((r.drop t).all fun b=>b)) (fun t=>r.length-t) 0 ⟨Nat.zero_le _,rfl⟩ ?_ ?_
 ·(refine xM.same ?_; simp [xP,Fr.get])
 rintro t ⟨ht,hm⟩;refine xN mixed ?_;by_cases htl:t<r.length
 case neg=>
  have hd2:¬ ((t:Int)<(r.length:Int)):=by omega
  rw [List.drop_eq_nil_of_le (by omega),List.all_nil] at hm;rw [hm,Bool.true_and] at hk;simp only [simprocAttr,-ZA,↓zU,↓zD,zV,zT,zW,hd2];refine⟨i+1,⟨by omega,hk⟩,?_,by omega⟩
  (refine xM.same ?_; simp only [xP,Fr.get,simprocAttr,-ZA,zS])
  exact yH (by omega)
 have hd2:((t:Int)<(r.length:Int)):=by omega
 have hgt:=aD0 htl;rw [drop_one (d:=false) htl,List.all_cons] at hm;generalize r.getD t false=b at hgt hm
 cases b with
 | true=>
  rw [Bool.true_and] at hm;simp only [simprocAttr,-ZA,↓zU,↓zD,zV,zT,zW,hd2,wZ,hgt]
  (repeat refine sd ?_)
  refine⟨t+1,⟨by omega,hm⟩,?_,by omega⟩
  (refine xM.same ?_; simp only [xP,Fr.get,simprocAttr,-ZA,zS])
  exact yH (by omega)
 | false=>
  rw [Bool.false_and] at hm;rw [hk,hm,Bool.false_and];simp only [simprocAttr,-ZA,↓zU,↓zD,zV,zT,zW,hd2,wZ,hgt]
  (repeat refine sd ?_)
  exact .drop (by simp) (by simp [vw,vwL])
open Rs Fm Ru Te
namespace Te
def evT (rs:List xD) (A T:Nat):Tr->Tab
 | .nil=>fun _=>false
 | .nd op i e g x y=>zH rs A T ⟨op,i,e,g,0,0⟩ (evT rs A T x) (evT rs A T y)
theorem aWc {rs:List xD} {A T:Nat} {n m:Nd} {x y x' y':Tab} (h1:n.op=m.op) (h2:n.i=m.i) (h3:n.g=m.g) (hx:(xW n.op).1.x=true->x=x') (hy:(xW n.op).1.y=true->y=y') :
  zH rs A T n x y=zH rs A T m x' y':=by
 obtain⟨op,i,e,g,a,b⟩:=n;obtain⟨op',i',e',g',a',b'⟩:=m;simp only at h1 h2 h3 hx hy;subst h1 h2 h3;rcases lK op with rfl | rfl | rfl | rfl | rfl | rfl | rfl | rfl | rfl | rfl | rfl | rfl | rfl | rfl | rfl | rfl | rfl | rfl | rfl | rfl | rfl | h | h
 all_goals first
  | (have hx':=hx rfl; have hy':=hy rfl; subst hx' hy'; rfl)
  | (have hx':=hx rfl; subst hx'; rfl)
  | rfl
  | (unfold zH aXa; simp only; funext p; repeat rw [if_neg (by omega)])
theorem lA {rs:List xD} {A T:Nat} {c:List Nd} {k:Nat}:∀ (m:Nat) {i:Nat},i<k->(wY rs A T c (k+m)).getD i (fun _=>false)= (wY rs A T c k).getD i fun _=>false
 | 0,_,_=>rfl
 | m+1,i,h=>by rw [show k+(m+1)= (k+m)+ 1 from rfl,wY,List.getD,List.getElem?_append_left (by rw [rE]; omega)];exact lA m h
theorem aL9 {rs:List xD} {A T:Nat} {c:List Nd} {k n:Nat} (h:k<n):(wY rs A T c n).getD k (fun _=>false)= zH rs A T (c.getD k nd0) ((wY rs A T c k).getD (c.getD k nd0).x.toNat fun _=>false) ((wY rs A T c k).getD (c.getD k nd0).y.toNat fun _=>false):=by obtain⟨m,rfl⟩:=Nat.exists_eq_add_of_le (show k+1<=n by omega);rw [lA m (by omega),wY,List.getD,List.getElem?_append_right (by rw [rE]; omega),rE,Nat.sub_self];rfl
theorem aPj {rs:List xD} {A T:Nat} {c:List Nd} (hv:yA c) {n:Nat} (hn:n<=c.length):∀ (i:Nat),i<n->(wY rs A T c n).getD i (fun _=>false)= evT rs A T (tree c i):=by
 intro i
 induction i using Nat.strongRecOn with
 | _ i ih=>
  intro hi;obtain⟨ox,oy,_,_⟩:=vY (hv i (by omega));rw [aL9 hi,wN hv (by omega)];show _=zH _ _ _ _ _ _
  refine aWc rfl rfl rfl (fun hx=>?_) fun hy=>?_
  ·have:=ox hx;obtain⟨m,hm⟩:=Nat.exists_eq_add_of_le (show i<=n by omega);rw [if_pos hx,<- ih _ (by omega) (by omega),hm,lA m (by omega)]
  ·have:=oy hy;obtain⟨m,hm⟩:=Nat.exists_eq_add_of_le (show i<=n by omega);rw [if_pos hy,<- ih _ (by omega) (by omega),hm,lA m (by omega)]
theorem aP9 {rs:List xD} {A T:Nat} {f:List Nd} (h:xB f=0):aQ8 rs A T f=evT rs A T (uQ f):=by unfold aQ8;have:=uC h;rw [aPj (iS f) (Nat.le_refl _) _ (by omega),(uT h).1]
theorem aZt {s:tZ} {f:List Nd}:lV s f=true ↔ kF s f=0/\∀ i,i<s.rs.length->∀ t,t<s.ln.toNat->evT s.rs s.ag.toNat s.ln.toNat (uQ f) (i,t)= true:=by
 unfold lV iP
 by_cases h:kF s f=0
 ·rw [if_neg (by simpa using h),aP9 (oG h).2];simp [h]
 ·simp [h]
def okN (A F:Nat) (p:Nd):Bool:=decide (jW p &&& 3824=0)&& decide (tE p / 2 ^ A=0)&& decide (gH p / 2 ^ F=0)
theorem rA {m:Nd->Nat} {φ:Nat->Nat} (h0:φ 0=0) (h:∀ a b,φ (a ||| b)= φ a ||| φ b) (l:List Nd):φ (vI m l)= vI (fun p=>φ (m p)) l:=by
 have key:∀ (l:List Nd) (a:Nat),φ (l.foldl (fun a p=>a ||| m p) a)= l.foldl (fun a p=>a ||| φ (m p)) (φ a):=by
  intro l
  induction l with
  | nil=>intro a; rfl
  | cons p r ih=>intro a; rw [List.foldl_cons,List.foldl_cons,ih,h]
 unfold vI;rw [key,h0]
theorem aYf {n:Nat} (h:n<4096):(pT .andNot .i64 (n:Int) 271 != 0)= !decide (n &&& 3824=0):=by
 have:∀ n:Fin 4096,(pT .andNot .i64 ((n.val:Nat):Int) 271 != 0)= !decide (n.val &&& 3824=0):=by decide +kernel
 exact this ⟨n,h⟩
theorem aUo {s:tZ} {A F T:Nat} {rs:List xD} (hs:s=⟨A,F,T,rs⟩) (hz:chk s=0) (ok:OkR rs A F T) {f:List Nd} (hc:xB f=0):kF s f=0 ↔ ∀ p ∈ xH f,okN A F p=true:=by
 have hlt:zC f<4096:=by refine fI fun p _=>?_;have:=aXe p.op;unfold jW; omega
 have e1:(zC f &&& 3824=0) ↔ ∀ p ∈ xH f,jW p &&& 3824=0:=by unfold zC;rw [rA (φ:=fun n=>n &&& 3824) (by decide) (fun a b=>Nat.and_or_distrib_right a b 3824),sI]
 have dv:∀ n a b:Nat,(a ||| b)/ 2 ^ n=a / 2 ^ n ||| b / 2 ^ n:=fun n a b=>by rw [<- Nat.shiftRight_eq_div_pow,<- Nat.shiftRight_eq_div_pow,<- Nat.shiftRight_eq_div_pow,Nat.shiftRight_or_distrib]
 have e2:oX f / 2 ^ A=0 ↔ ∀ p ∈ xH f,tE p / 2 ^ A=0:=by unfold oX;rw [rA (φ:=fun n=>n / 2 ^ A) (by simp) (dv A),sI]
 have e3:bW f / 2 ^ F=0 ↔ ∀ p ∈ xH f,gH p / 2 ^ F=0:=by unfold bW;rw [rA (φ:=fun n=>n / 2 ^ F) (by simp) (dv F),sI]
 have hA:=ok.hA;have hF:=ok.hF
 have ef:sT f s.ag s.fa=true ↔ oX f / 2 ^ A=0/\bW f / 2 ^ F=0:=by
  subst hs;unfold sT iN;simp only [Bool.and_eq_true,Bool.or_eq_true,decide_eq_true_eq,Int.toNat_natCast]
  constructor
  ·rintro ⟨⟨_,h1⟩,h2⟩; exact⟨h1.resolve_left (by omega),h2.resolve_left (by omega)⟩
  ·rintro ⟨h1,h2⟩; exact⟨⟨hc,.inr h1⟩,.inr h2⟩
 unfold kF;rw [if_neg (by simpa using hz),if_neg (by simpa using hc),aYf hlt]
 constructor
 ·intro h p hp
  by_cases c:zC f &&& 3824=0
  ·rw [if_neg (by simp [c])] at h
   cases h2:sT f s.ag s.fa with
   | false=>rw [h2,if_pos rfl] at h; cases h
   | true=> have h3:=ef.1 h2;unfold okN;simp only [Bool.and_eq_true,decide_eq_true_eq];exact⟨⟨e1.1 c p hp,e2.1 h3.1 p hp⟩,e3.1 h3.2 p hp⟩
  ·rw [if_pos (by simp [c])] at h; cases h
 ·intro h;have h':∀ p ∈ xH f,(jW p &&& 3824=0/\tE p / 2 ^ A=0)/\ gH p / 2 ^ F=0:=fun p hp=>by simpa [okN] using h p hp
  have c:zC f &&& 3824=0:=e1.2 fun p hp=>(h' p hp).1.1;rw [if_neg (by simp [c]),ef.2 ⟨e2.2 fun p hp=>(h' p hp).1.2,e3.2 fun p hp=>(h' p hp).2⟩,if_neg (by decide)]
def okT (A F:Nat):Tr->Prop
 | .nil=>True
 | .nd op i e g x y=>okN A F ⟨op,i,e,g,0,0⟩= true/\okT A F x/\okT A F y
theorem aFg {A F:Nat} {c:List Nd} (hv:yA c) (h:∀ p ∈ c,okN A F p=true):∀ i,i<c.length->okT A F (tree c i):=by
 intro i
 induction i using Nat.strongRecOn with
 | _ i ih=>
  intro hi;obtain⟨ox,oy,_,_⟩:=vY (hv i hi);rw [wN hv hi]
  refine⟨?_,?_,?_⟩
  ·have:=h (c.getD i nd0) (by rw [List.getD,List.getElem?_eq_getElem hi]; exact List.getElem_mem hi);exact this
  ·split
   ·rename_i hx; have:=ox hx; exact ih _ (by omega) (by omega)
   ·trivial
  ·split
   ·rename_i hy; have:=oy hy; exact ih _ (by omega) (by omega)
   ·trivial
theorem aUv {A F:Nat}:∀ (t:Tr) (out:List Nd),okT A F t->(∀ q ∈ out,okN A F q=true)->∀ q ∈ (qR t out).2,okN A F q=true
 | .nil,out,_,h=>h
 | .nd op i e g x y,out,⟨h1,h2,h3⟩,h=>by
  have hx:∀ q ∈ (if (xW op).1.x=true then qR x out else(0,out)).2,okN A F q=true:=by
   split
   ·exact aUv x out h2 h
   ·exact h
  have hy:∀ q ∈ (if (xW op).1.y=true then qR y (if (xW op).1.x=true then qR x out else(0,out)).2 else(0,(if (xW op).1.x=true then qR x out else(0,out)).2)).2,okN A F q=true:=by
   split
   ·exact aUv y _ h3 hx
   ·exact hx
  intro q hq;unfold qR at hq;simp only at hq
  split at hq
  ·exact hy q hq
  ·simp only [List.mem_append,List.mem_singleton] at hq
   rcases hq with hq | rfl
   ·exact hy q hq
   ·exact h1
end Te
namespace Fm
theorem aWy {t:Tr} (h:wfT t) (hl:(canon t).length<=200):xB (canon t)= 0/\uQ (canon t)= t:=by obtain⟨a,_,c,d⟩:=qZ h;exact⟨aJ9 c hl a,d⟩
def szT (t:Tr):Nat:=(canon t).length
theorem bUi {f:List Nd} (h:xB f=0):szT (uQ f)<=f.length:=aE2 h
theorem bZ4 {op i e g:Int} {x:Tr} (hx:(xW op).1.x=true) (hy:(xW op).1.y=false) (hw:yE ⟨op,i,e,g,0,0⟩ 1=0) (h:wfT x):szT (.nd op i e g x .nil)<=szT x+1:=by
 obtain⟨hv,_,hp,ht⟩:=qZ h;unfold szT;generalize canon x=c at hv hp ht
 have hq:yE ⟨op,i,e,g,(c.length:Int)-1,0⟩ c.length=0:=by
  refine tM (p:=⟨op,i,e,g,0,0⟩) hw ?_ ?_
  ·simp only [hx,↓reduceIte]; omega
  ·simp only [hy,Bool.false_eq_true,↓reduceIte]
 have hvs:yA (c ++ [⟨op,i,e,g,(c.length:Int)-1,0⟩]):=uB hv hq
 have htr:tree (c ++ [⟨op,i,e,g,(c.length:Int)-1,0⟩]) c.length = .nd op i e g x .nil:=by
  rw [wN hvs (by simp)];have hgl:(c ++ [(⟨op,i,e,g,(c.length:Int)-1,0⟩:Nd)]).getD c.length nd0=⟨op,i,e,g,(c.length:Int)-1,0⟩:=by simp [List.getD]
  rw [hgl];simp only [hx,hy,Bool.false_eq_true,↓reduceIte];rw [vC hvs _ (by omega),show ((c.length:Int)-1).toNat=c.length-1 by omega,ht]
 have:=nQ hvs (i:=c.length) (by simp);rw [vW hvs (by simp),htr] at this;simpa using this
theorem bZ3 {op i e g:Int} {x y:Tr} (hx:(xW op).1.x=true) (hy:(xW op).1.y=true) (hw:yE ⟨op,i,e,g,0,0⟩ 1=0) (h:wfT x) (h2:wfT y):szT (.nd op i e g x y)<=szT x+szT y+1:=by
 obtain⟨hv,_,hp,ht⟩:=qZ h;obtain⟨hv2,_,hp2,ht2⟩:=qZ h2;unfold szT;generalize canon x=a at hv hp ht;generalize canon y=b at hv2 hp2 ht2;have hva:yA (bYo a b):=nY hv hv2;have hsh:=bQ hv hv2 (b.length-1) (by omega);have hta:=vC hva (a.length-1) (by omega);have hll:=aE4 a b;have hsh':tree (bYo a b) (a.length+(b.length-1))= y:=by rw [<- ht2]; exact hsh
 have hta':tree (bYo a b) (a.length-1)= x:=by rw [<- ht]; exact hta
 generalize bYo a b=l at hva hll hsh' hta'
 have hq:yE ⟨op,i,e,g,(a.length:Int)-1,((a.length+b.length:Nat):Int)-1⟩ l.length=0:=by
  refine tM (p:=⟨op,i,e,g,0,0⟩) hw ?_ ?_
  ·simp only [hx,↓reduceIte]; omega
  ·simp only [hy,↓reduceIte]; omega
 have hvs:yA (l ++ [⟨op,i,e,g,(a.length:Int)-1,((a.length+b.length:Nat):Int)-1⟩]):=uB hva hq
 have htr:tree (l ++ [⟨op,i,e,g,(a.length:Int)-1,((a.length+b.length:Nat):Int)-1⟩]) l.length = .nd op i e g x y:=by
  rw [wN hvs (by simp)];have hgl:(l ++ [(⟨op,i,e,g,(a.length:Int)-1,((a.length+b.length:Nat):Int)-1⟩:Nd)]).getD l.length nd0=⟨op,i,e,g,(a.length:Int)-1,((a.length+b.length:Nat):Int)-1⟩:=by simp [List.getD]
  rw [hgl];simp only [hx,hy,↓reduceIte];rw [show ((a.length:Int)-1).toNat=a.length-1 by omega,show (((a.length+b.length:Nat):Int)-1).toNat=a.length+(b.length-1) by omega,vC hvs _ (by omega),vC hvs _ (by omega),hta',hsh']
 have:=nQ hvs (i:=l.length) (by simp);rw [vW hvs (by simp),htr] at this;simp only [List.length_append,List.length_singleton,hll] at this;exact this
end Fm
namespace Te
structure Is (A F : Nat) (f : List Nd) (t : Tr) : Prop where
 c:xB f=0
 e:uQ f=t
 o:okT A F t
theorem Is.wf {A F:Nat} {f:List Nd} {t:Tr} (h:Is A F f t):wfT t:=by rw [<- h.e]; exact aS1 h.c
theorem Is.start {s:tZ} {A F T:Nat} {rs:List xD} (hs:s=⟨A,F,T,rs⟩) (hz:chk s=0) (ok:OkR rs A F T) {f:List Nd} (h:kF s f=0):Is A F f (uQ f):=by have hc:=(oG h).2;refine⟨hc,rfl,?_⟩;have:=uC hc;rw [<- (uT hc).1];exact aFg (iS f) ((aUo hs hz ok hc).1 h) _ (by omega)
theorem Is.req {s:tZ} {A F T:Nat} {rs:List xD} (hs:s=⟨A,F,T,rs⟩) (hz:chk s=0) (ok:OkR rs A F T) {f:List Nd} {t:Tr} (h:Is A F f t):kF s f=0:=by refine(aUo hs hz ok h.c).2 ?_;rw [cU h.c];exact aUv _ [] (by have:=h.o; rw [<- h.e] at this; exact this) fun q hq=>by cases hq
theorem Is.un {A F:Nat} {x:Nd} {f:List Nd} {t:Tr} (h:Is A F f t) (hx:(xW x.op).1.x=true) (hy:(xW x.op).1.y=false) (hw:yE ⟨x.op,x.i,x.e,x.g,0,0⟩ 1=0) (hx0:x.y=0) (ho:okN A F ⟨x.op,x.i,x.e,x.g,0,0⟩= true) (hl:szT t<200) :
  Is A F (tO x [f]) (.nd x.op x.i x.e x.g t .nil)/\ szT (.nd x.op x.i x.e x.g t .nil)<=szT t+1:=by
 have h1:=bZ4 hx hy hw h.wf;have hwf:wfT (.nd x.op x.i x.e x.g t .nil):=⟨hw,by rw [if_pos hx]; exact h.wf,by rw [if_neg (by rw [hy]; decide)]⟩;refine⟨?_,h1⟩;rw [aIk h.c hx hy hw hx0,h.e,if_neg (by unfold szT at h1 hl; omega)];obtain⟨a,b⟩:=aWy hwf (by unfold szT at h1 hl; omega);exact⟨a,b,ho,h.o,trivial⟩
theorem Is.bin {A F:Nat} {x:Nd} {f g:List Nd} {t u:Tr} (h:Is A F f t) (h2:Is A F g u) (hx:(xW x.op).1.x=true) (hy:(xW x.op).1.y=true) (hw:yE ⟨x.op,x.i,x.e,x.g,0,0⟩ 1=0) (ho:okN A F ⟨x.op,x.i,x.e,x.g,0,0⟩= true) (hl:szT t+szT u<200) :
  Is A F (tO x [f,g]) (.nd x.op x.i x.e x.g t u)/\ szT (.nd x.op x.i x.e x.g t u)<=szT t+szT u+1:=by
 have h1:=bZ3 hx hy hw h.wf h2.wf;have hwf:wfT (.nd x.op x.i x.e x.g t u):=⟨hw,by rw [if_pos hx]; exact h.wf,by rw [if_pos hy]; exact h2.wf⟩;refine⟨?_,h1⟩;rw [aIj h.c h2.c hx hy hw,h.e,h2.e,if_neg (by unfold szT at h1 hl; omega)];obtain⟨a,b⟩:=aWy hwf (by unfold szT at h1 hl; omega);exact⟨a,b,ho,h.o,h2.o⟩
end Te
end Go.Pd
