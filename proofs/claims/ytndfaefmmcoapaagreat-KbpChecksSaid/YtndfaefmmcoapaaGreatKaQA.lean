/- Part QA. -/
import Derived.Test.YtndfaefmmcoapaaGreatKaC1
import Derived.Test.YtndfaefmmcoapaaGreatKaP8
import Derived.Test.YtndfaefmmcoapaaGreatKaKG
import Derived.Test.YtndfaefmmcoapaaGreatKaC4
set_option linter.unusedSectionVars false
set_option linter.unusedVariables false
set_option linter.unusedSimpArgs false
set_option linter.defProp false
set_option maxRecDepth 20000
set_option maxHeartbeats 1000000
namespace Go.Pd
open Go Go.Proofs
section
open Rs Fm Ru Te
namespace Te
theorem aN7 {nx:Nat} {objs:List (Nat × Ob)} (hu:eB ⟨nx,objs⟩) (nx':Nat) (ob:Ob):∀ k o,St.look objs k=some o->St.get ⟨nx',(nx,ob) :: objs⟩ k=some o:=fun k o hk=>by
 have:=(hu k o hk).1;simp only at this;show St.look (_ :: _) k=_;rw [xY,if_neg (by omega)]; exact hk
end Te
end
section
open Rs Fm Ru Te
end
section
open Rs Fm Ru Te
theorem rX (c:Nat):∀ {l:List (Nat × Ob)} {k:Nat} {o:Ob},St.look l k=some o->St.look (yZ c l) (c+k)= some (o.shift c)
 | [],k,o,h=>by cases h
 | (j,ob) :: r,k,o,h=>by
  rw [xY] at h;show St.look ((c+j,ob.shift c) :: yZ c r) _=_;rw [xY]
  by_cases e:j=k
  ·rw [if_pos e] at h; rw [if_pos (by omega)]; cases h; rfl
  ·rw [if_neg e] at h; rw [if_neg (by omega)]; exact rX c h
namespace Te
def aJs (s:cG) (f:List Nd):Int:=if chk s≠0 then chk s else if xH f≠0 then xH f else if (rQ .andNot .i64 (zY f:Int) 271 != 0)= true then 10 else if sV f s.ag s.fa=false then 2 else 0
theorem req_zero {s:cG} {f:List Nd} (h:aJs s f=0):chk s=0/\xH f=0:=by
 unfold aJs at h
 by_cases c1:chk s≠0
 ·rw [if_pos c1] at h; exact absurd h c1
 rw [if_neg c1] at h
 by_cases c2:xH f≠0
 ·rw [if_pos c2] at h; exact absurd h c2
 exact⟨by simpa using c1,by simpa using c2⟩
end Te
end
section
open Rs Fm Ru Te
namespace Te
end Te
end
open Rs Fm Ru Te
namespace Te
def pt (T p:Nat):Nat × Nat:=(p / T,p % T)
def relK (rs:List wO) (g:Nat) (m:Bool) (p q:Nat × Nat) (a:Nat):Bool:=(List.range a).all fun b=>!g.testBit b || (decide (uT rs b p=uT rs b q)== m)
end Te
open Ru
namespace Ru
def lV (rs:List wO) (l:List (Nat × Nat)) (A F:Nat):pR:=⟨(l.length:Int),eR rs l F,oU rs l A⟩
def vY (R t:Nat):List (Nat × Nat):=(List.range R).map fun r=>(r,t)
theorem bH (R t:Nat):(vY R t).length=R:=by simp [vY]
theorem tJ {k:Nat} (hk:k<64) (i:Nat):(1#64 <<< k).getLsbD i=decide (i=k):=by
 by_cases hi:i<64
 ·have:∀ k,k<64->∀ i,i<64->(1#64 <<< k).getLsbD i=decide (i=k):=by decide
  exact this k hk i hi
 ·rw [BitVec.getLsbD_of_ge _ _ (by omega)];exact(decide_eq_false (by omega)).symm
theorem dY {rs:List wO} {l:List (Nat × Nat)} {f:Nat}:∀ (k i:Nat),k<=64->(gV rs l f k).getLsbD i=(decide (i<k)&& (aNy rs (l.getD i (0,0))).getLsbD f)
 | 0,i,_=>by simp [gV]
 | k+1,i,hk=>by
  unfold gV;rw [BitVec.getLsbD_or,dY k i (by omega)]
  by_cases e:i=k
  ·subst e
   cases hb:(aNy rs (l.getD i (0,0))).getLsbD f
   ·simp
   ·rw [if_pos rfl,tJ (by omega)];simp
  ·have h2:(if (aNy rs (l.getD k (0,0))).getLsbD f=true then 1#64 <<< k else 0#64).getLsbD i=false:=by
    split
    ·rw [tJ (by omega)]; exact decide_eq_false e
    ·exact BitVec.getLsbD_zero
   rw [h2,Bool.or_false];congr 1;rw [Bool.eq_iff_iff,decide_eq_true_iff,decide_eq_true_iff]; omega
theorem oH {rs:List wO} {l:List (Nat × Nat)} {a:Nat} {x:Int}:∀ (k i:Nat),k<=64->(relK rs l a x k).getLsbD i=(decide (i<k)&& decide (uT rs a (l.getD i (0,0))= x))
 | 0,i,_=>by simp [relK]
 | k+1,i,hk=>by
  unfold relK;rw [BitVec.getLsbD_or,oH k i (by omega)]
  by_cases e:i=k
  ·subst e
   by_cases hb:uT rs a (l.getD i (0,0))= x
   ·rw [if_pos hb,tJ (by omega),decide_eq_true hb];simp
   ·rw [if_neg hb,decide_eq_false hb];simp
  ·have h2:(if uT rs a (l.getD k (0,0))= x then 1#64 <<< k else 0#64).getLsbD i=false:=by
    split
    ·rw [tJ (by omega)]; exact decide_eq_false e
    ·exact BitVec.getLsbD_zero
   rw [h2,Bool.or_false];congr 1;rw [Bool.eq_iff_iff,decide_eq_true_iff,decide_eq_true_iff]; omega
theorem aZa {rs:List wO} {A F T:Nat} (ok:OkR rs A F T) {l:List (Nat × Nat)} (h1:1<=l.length) (h2:l.length<=64):oN (lV rs l A F) l.length where
 w:=rfl
 hW:=⟨h1,h2⟩
 hV:=by have:=ok.hF; simp [lV,eR]; exact this
 hR:=by have:=ok.hA; simp [lV,oU]; exact this
 row:=fun r hr=>by
  simp only [lV,oU,List.mem_map] at hr;obtain⟨a,_,rfl⟩:=hr;simp [nD]
 val:=fun x hx=>by
  simp only [lV,eR,List.mem_map] at hx;obtain⟨f,_,rfl⟩:=hx;refine aY7 h2 fun i hi=>?_;rw [dY _ _ h2,Bool.and_eq_true] at hi;exact of_decide_eq_true hi.1
 rel:=fun r hr x hx=>by
  simp only [lV,oU,List.mem_map] at hr;obtain⟨a,_,rfl⟩:=hr;simp only [nD,List.mem_map] at hx;obtain⟨p,_,rfl⟩:=hx;refine aY7 h2 fun i hi=>?_;rw [oH _ _ h2,Bool.and_eq_true] at hi;exact of_decide_eq_true hi.1
end Ru
open Rs Fm Ru Te
namespace Te
end Te
namespace Te
end Te
open Rs Fm Ru Te
namespace Te
def evT (rs:List wO) (A T:Nat):Tr->Tab
 | .nil=>fun _=>false
 | .nd op i e g x y=>aU3 rs A T ⟨op,i,e,g,0,0⟩ (evT rs A T x) (evT rs A T y)
theorem aOb {rs:List wO} {A T:Nat} {n m:Nd} {x y x' y':Tab} (h1:n.op=m.op) (h2:n.i=m.i) (h3:n.g=m.g) (hx:(xZ n.op).1.x=true->x=x') (hy:(xZ n.op).1.y=true->y=y') :
  aU3 rs A T n x y=aU3 rs A T m x' y':=by
 obtain⟨op,i,e,g,a,b⟩:=n;obtain⟨op',i',e',g',a',b'⟩:=m;simp only at h1 h2 h3 hx hy;subst h1 h2 h3;rcases vP op with rfl | rfl | rfl | rfl | rfl | rfl | rfl | rfl | rfl | rfl | rfl | rfl | rfl | rfl | rfl | rfl | rfl | rfl | rfl | rfl | rfl | h | h
 all_goals first
  | (have hx':=hx rfl; have hy':=hy rfl; subst hx' hy'; rfl)
  | (have hx':=hx rfl; subst hx'; rfl)
  | rfl
  | (unfold aU3 aE7; simp only; funext p; repeat rw [if_neg (by omega)])
def okN (A F:Nat) (p:Nd):Bool:=decide (tD p &&& 3824=0)&& decide (wJ p / 2 ^ A=0)&& decide (tC p / 2 ^ F=0)
theorem sQ {m:Nd->Nat} {φ:Nat->Nat} (h0:φ 0=0) (h:∀ a b,φ (a ||| b)= φ a ||| φ b) (l:List Nd):φ (yN m l)= yN (fun p=>φ (m p)) l:=by
 have key:∀ (l:List Nd) (a:Nat),φ (l.foldl (fun a p=>a ||| m p) a)= l.foldl (fun a p=>a ||| φ (m p)) (φ a):=by
  intro l
  induction l with
  | nil=>intro a; rfl
  | cons p r ih=>intro a; rw [List.foldl_cons,List.foldl_cons,ih,h]
 unfold yN;rw [key,h0]
theorem dC {n:Nat} (h:n<4096):(rQ .andNot .i64 (n:Int) 271 != 0)= !decide (n &&& 3824=0):=by
 have:∀ n:Fin 4096,(rQ .andNot .i64 ((n.val:Nat):Int) 271 != 0)= !decide (n.val &&& 3824=0):=by decide +kernel
 exact this ⟨n,h⟩
theorem aHu {s:cG} {A F T:Nat} {rs:List wO} (hs:s=⟨A,F,T,rs⟩) (hz:chk s=0) (ok:OkR rs A F T) {f:List Nd} (hc:xH f=0):aJs s f=0 ↔ ∀ p ∈ xJ f,okN A F p=true:=by
 have hlt:zY f<4096:=by
  refine sS fun p _=>?_;have:=mT p.op;unfold tD; omega
 have e1:(zY f &&& 3824=0) ↔ ∀ p ∈ xJ f,tD p &&& 3824=0:=by
  unfold zY;rw [sQ (φ:=fun n=>n &&& 3824) (by decide) (fun a b=>Nat.and_or_distrib_right a b 3824),tS]
 have dv:∀ n a b:Nat,(a ||| b)/ 2 ^ n=a / 2 ^ n ||| b / 2 ^ n:=fun n a b=>by
  rw [<- Nat.shiftRight_eq_div_pow,<- Nat.shiftRight_eq_div_pow,<- Nat.shiftRight_eq_div_pow,Nat.shiftRight_or_distrib]
 have e2:uA f / 2 ^ A=0 ↔ ∀ p ∈ xJ f,wJ p / 2 ^ A=0:=by
  unfold uA;rw [sQ (φ:=fun n=>n / 2 ^ A) (by simp) (dv A),tS]
 have e3:pN f / 2 ^ F=0 ↔ ∀ p ∈ xJ f,tC p / 2 ^ F=0:=by
  unfold pN;rw [sQ (φ:=fun n=>n / 2 ^ F) (by simp) (dv F),tS]
 have hA:=ok.hA;have hF:=ok.hF
 have ef:sV f s.ag s.fa=true ↔ uA f / 2 ^ A=0/\pN f / 2 ^ F=0:=by
  subst hs;unfold sV oJ;simp only [Bool.and_eq_true,Bool.or_eq_true,decide_eq_true_eq,Int.toNat_natCast]
  constructor
  ·rintro ⟨⟨_,h1⟩,h2⟩; exact⟨h1.resolve_left (by omega),h2.resolve_left (by omega)⟩
  ·rintro ⟨h1,h2⟩; exact⟨⟨hc,.inr h1⟩,.inr h2⟩
 unfold aJs;rw [if_neg (by simpa using hz),if_neg (by simpa using hc),dC hlt]
 constructor
 ·intro h p hp
  by_cases c:zY f &&& 3824=0
  ·rw [if_neg (by simp [c])] at h
   cases h2:sV f s.ag s.fa with
   | false=>rw [h2,if_pos rfl] at h; cases h
   | true=>
    have h3:=ef.1 h2;unfold okN;simp only [Bool.and_eq_true,decide_eq_true_eq];exact⟨⟨e1.1 c p hp,e2.1 h3.1 p hp⟩,e3.1 h3.2 p hp⟩
  ·rw [if_pos (by simp [c])] at h; cases h
 ·intro h;have h':∀ p ∈ xJ f,(tD p &&& 3824=0/\wJ p / 2 ^ A=0)/\ tC p / 2 ^ F=0:=fun p hp=>by simpa [okN] using h p hp
  have c:zY f &&& 3824=0:=e1.2 fun p hp=>(h' p hp).1.1;rw [if_neg (by simp [c]),ef.2 ⟨e2.2 fun p hp=>(h' p hp).1.2,e3.2 fun p hp=>(h' p hp).2⟩,if_neg (by decide)]
end Te
namespace Fm
end Fm
namespace Te
end Te
open Rs Fm Ru Te
namespace Te
def aEv (φ:Nat->Bool):Nat->BitVec 64
 | 0=>0#64
 | k+1=>aEv φ k ||| (if φ k=true then 1#64 <<< k else 0#64)
theorem aVk {φ:Nat->Bool}:∀ (k i:Nat),k<=64->(aEv φ k).getLsbD i=(decide (i<k)&& φ i)
 | 0,i,_=>by simp [aEv]
 | k+1,i,hk=>by
  unfold aEv;rw [BitVec.getLsbD_or,aVk k i (by omega)]
  by_cases e:i=k
  ·subst e
   cases hb:φ i
   ·simp
   ·rw [if_pos rfl,tJ (by omega)];simp
  ·have h2:(if φ k=true then 1#64 <<< k else 0#64).getLsbD i=false:=by
    split
    ·rw [tJ (by omega)]; exact decide_eq_false e
    ·exact BitVec.getLsbD_zero
   rw [h2,Bool.or_false];congr 1;exact decide_eq_decide.2 (by omega)
def qQ (T W:Nat) (x:Tab):BitVec 64:=aEv (fun w=>x (pt T w)) W
theorem xC {T W:Nat} {x:Tab} (hW:W<=64) (i:Nat):(qQ T W x).getLsbD i=(decide (i<W)&& x (pt T i)):=aVk W i hW
theorem mI {a b:BitVec 64} (h:∀ i,i<64->a.getLsbD i=b.getLsbD i):a=b:=BitVec.eq_of_getLsbD_eq h
theorem aUg (r:List (BitVec 64)) (s:BitVec 64):∀ (k i:Nat),k<=64->(aUx r s k).getLsbD i=(decide (i<k)&& (r.getD i 0 &&& ~~~s==0#64))
 | 0,i,_=>by simp [aUx]
 | k+1,i,hk=>by
  unfold aUx
  have e1:(if (r.getD k 0 &&& ~~~s==0#64)= true then aUx r s k ||| 1#64 <<< k else aUx r s k)= aUx r s k ||| (if (r.getD k 0 &&& ~~~s==0#64)= true then 1#64 <<< k else 0#64):=by
   split
   ·rfl
   ·exact BitVec.or_zero.symm
  rw [e1,BitVec.getLsbD_or,aUg r s k i (by omega)]
  by_cases e:i=k
  ·subst e
   cases hb:(r.getD i 0 &&& ~~~s==0#64)
   ·simp
   ·rw [if_pos rfl,tJ (by omega)];simp
  ·have h2:(if (r.getD k 0 &&& ~~~s==0#64)= true then 1#64 <<< k else 0#64).getLsbD i=false:=by
    split
    ·rw [tJ (by omega)]; exact decide_eq_false e
    ·exact BitVec.getLsbD_zero
   rw [h2,Bool.or_false];congr 1;exact decide_eq_decide.2 (by omega)
theorem aR8 {a s:BitVec 64}:(a &&& ~~~s==0#64)= true ↔ ∀ v,v<64->a.getLsbD v=true->s.getLsbD v=true:=by
 rw [beq_iff_eq]
 constructor
 ·intro h v hv ha;have:=congrArg (·.getLsbD v) h;simp only [BitVec.getLsbD_and,BitVec.getLsbD_not,ha,hv,BitVec.getLsbD_zero] at this;simpa using this
 ·intro h;refine mI fun v hv=>?_;rw [BitVec.getLsbD_and,BitVec.getLsbD_not,BitVec.getLsbD_zero]
  cases ha:a.getLsbD v
  ·rfl
  ·rw [h v hv ha]; simp
theorem aRt {rs:List wO} {T v:Nat} (h:v<rs.length*T):(ptl rs T).getD v (0,0)= pt T v:=aHy T h
theorem aFs {rs:List wO} {T:Nat} {P:Nat × Nat->Bool}:(ptl rs T).all P=true ↔ ∀ v,v<rs.length*T->P (pt T v)= true:=by
 rw [List.all_eq_true]
 constructor
 ·intro h v hv;refine h _ ?_;unfold ptl ptN;exact List.mem_map.2 ⟨v,List.mem_range.2 hv,rfl⟩
 ·intro h q hq;unfold ptl ptN at hq;obtain⟨v,hv,rfl⟩:=List.mem_map.1 hq;exact h v (List.mem_range.1 hv)
def aIt (rs:List wO) (T:Nat) (r:List (BitVec 64)) (ρ:Nat × Nat->Nat × Nat->Bool):Prop:=
 r.length=rs.length*T/\∀ w,w<rs.length*T->∀ v,(r.getD w 0).getLsbD v=(decide (v<rs.length*T)&& ρ (pt T w) (pt T v))
theorem jS {rs:List wO} {T:Nat} (hW:rs.length*T<=64) {r:List (BitVec 64)} {ρ:Nat × Nat->Nat × Nat->Bool} (h:aIt rs T r ρ) {s:BitVec 64} {x:Tab} (hs:∀ v,v<rs.length*T->s.getLsbD v=x (pt T v)) :
  cE r s=qQ T (rs.length*T) fun p=>(ptl rs T).all fun q=>!ρ p q || x q:=by
 obtain⟨hl,hr⟩:=h;refine mI fun i _=>?_;rw [xC hW,cE,aUg r s _ i (by omega),hl]
 by_cases hi:i<rs.length*T
 ·rw [decide_eq_true hi,Bool.true_and,Bool.true_and,Bool.eq_iff_iff,aR8,aFs]
  constructor
  ·intro h v hv
   cases e:ρ (pt T i) (pt T v) with
   | false=>rfl
   | true=>
    have:=h v (by omega) (by rw [hr i hi v,decide_eq_true hv,e]; rfl);rw [hs v hv] at this;simpa using this
  ·intro h v _ ha;rw [hr i hi v,Bool.and_eq_true] at ha;have hv:=of_decide_eq_true ha.1;have:=h v hv;rw [ha.2] at this;rw [hs v hv];simpa using this
 ·rw [decide_eq_false hi,Bool.false_and,Bool.false_and]
section
variable {rs : List wO} {A F T : Nat}
theorem aW9 {a:Nat} (ha:a<A) (hW:rs.length*T<=64):aIt rs T ((lV rs (ptl rs T) A F).R.getD a []) fun p q=>decide (uT rs a q=uT rs a p):=by
 have hl:(ptl rs T).length=rs.length*T:=sJ T _
 have hg:(lV rs (ptl rs T) A F).R.getD a []=nD rs (ptl rs T) a:=by
  show (oU rs (ptl rs T) A).getD a []=_;simp [oU,List.getD,ha]
 rw [hg];refine⟨by simp [nD,hl],fun w hw v=>?_⟩
 have hw':(nD rs (ptl rs T) a).getD w 0=Ru.relK rs (ptl rs T) a (uT rs a (pt T w)) (rs.length*T):=by
  have h1:w<(ptl rs T).length:=by omega
  have h2:=aRt (rs:=rs) hw;rw [List.getD,List.getElem?_eq_getElem h1] at h2;simp only [Option.getD_some] at h2;simp only [nD,List.getD,List.getElem?_map,List.getElem?_eq_getElem h1,Option.map_some,Option.getD_some,h2,hl]
 rw [hw',oH _ _ hW]
 by_cases hv:v<rs.length*T
 ·rw [decide_eq_true hv,aRt hv]
 ·rw [decide_eq_false hv,Bool.false_and,Bool.false_and]
theorem iX {m:pR} {W:Nat} (ok:oN m W) (hW:rs.length*T=W) (hR:m.R.length=A) {g:Nat} (hg:1<=g/\g<2 ^ m.R.length) (meet:Bool) (hk:∀ a,a<A->aIt rs T (m.R.getD a []) fun p q=>decide (uT rs a q=uT rs a p)) :
  aIt rs T (zZ m g meet) fun p q=>if meet=true then aCy rs A g p q else aIo rs A g p q:=by
 obtain⟨⟨a0,ha0,hb0⟩,hl,hv⟩:=iE ok hg meet;refine⟨by rw [hl,hW],fun w hw v=>?_⟩;rw [hv w (by omega) v];unfold aRf;rw [hR] at ha0 ⊢
 have hbit:∀ a,a<A->((m.R.getD a []).getD w 0).getLsbD v=(decide (v<rs.length*T)&& decide (uT rs a (pt T w)= uT rs a (pt T v))):=fun a ha=>by
  rw [(hk a ha).2 w hw v];congr 1;exact decide_eq_decide.2 ⟨fun h=>h.symm,fun h=>h.symm⟩
 cases meet with
 | true=>
  show _=(decide (v<rs.length*T)&& aCy rs A g (pt T w) (pt T v));rw [if_pos rfl];unfold aCy
  by_cases hvw:v<rs.length*T
  ·rw [decide_eq_true hvw,Bool.true_and];refine aZi fun a ha=>?_;rw [hbit a (List.mem_range.1 ha),decide_eq_true hvw,Bool.true_and]
  ·rw [decide_eq_false hvw,Bool.false_and];refine Bool.eq_false_iff.2 fun h=>?_;rw [List.all_eq_true] at h;have:=h a0 (List.mem_range.2 ha0);rw [hb0,hbit a0 ha0,decide_eq_false hvw] at this;simp at this
 | false=>
  show _=(decide (v<rs.length*T)&& aIo rs A g (pt T w) (pt T v));rw [if_neg (by decide)];unfold aIo
  by_cases hvw:v<rs.length*T
  ·rw [decide_eq_true hvw,Bool.true_and,Bool.eq_iff_iff,List.any_eq_true,List.any_eq_true]
   constructor
   ·rintro ⟨a,ha,h⟩;refine⟨a,ha,?_⟩
    rwa [hbit a (List.mem_range.1 ha),decide_eq_true hvw,Bool.true_and] at h
   ·rintro ⟨a,ha,h⟩;refine⟨a,ha,?_⟩
    rwa [hbit a (List.mem_range.1 ha),decide_eq_true hvw,Bool.true_and]
  ·rw [decide_eq_false hvw,Bool.false_and];refine Bool.eq_false_iff.2 fun h=>?_;rw [List.any_eq_true] at h;obtain⟨a,ha,h⟩:=h;rw [hbit a (List.mem_range.1 ha),decide_eq_false hvw] at h;simp at h
theorem aXg {g:Nat} {x:Tab} {p:Nat × Nat}:rG rs A T g x p=(ptl rs T).all fun q=>!aIo rs A g p q || x q:=by
 rw [Bool.eq_iff_iff,aSh,List.all_eq_true]
 constructor
 ·intro h q hq
  cases e:aIo rs A g p q with
  | false=>rfl
  | true=>rw [h q hq e]; rfl
 ·intro h q hq e;have:=h q hq;rw [e] at this;simpa using this
theorem aUo {W T:Nat} (hW:W<=64):rM W=qQ T W fun _=>true:=by
 refine mI fun i hi=>?_;rw [tI hW hi,xC hW,Bool.and_true]
theorem pV {m:pR} {W:Nat} (ok:oN m W) (hW:rs.length*T=W) (hR:m.R.length=A) {g:Nat} (hg:1<=g/\g<2 ^ m.R.length) (hk:∀ a,a<A->aIt rs T (m.R.getD a []) fun p q=>decide (uT rs a q=uT rs a p)) (x y:Tab) :
  ∀ n,oR (zZ m g false) (rM W) (qQ T W x) (qQ T W y) n=qQ T W (gT rs A T g x y n)
 | 0=>by have:=ok.hW; exact aUo this.2
 | n+1=>by
  have hW64:=ok.hW.2;show cE _ _=_;rw [pV ok hW hR hg hk x y n];have hrel:=iX ok hW hR hg false hk
  rw [jS (by omega) hrel (x:=fun q=>!x q || (y q&&gT rs A T g x y n q)) fun v hv=>?_]
  ·rw [hW];congr 1;funext p;simp only [Bool.false_eq_true,↓reduceIte];rw [<- aXg];rfl
  ·rw [hW] at hv;simp only [BitVec.getLsbD_or,BitVec.getLsbD_and,BitVec.getLsbD_not,tI hW64 (show v<64 by omega),xC hW64,decide_eq_true hv,decide_eq_true (show v<64 by omega),Bool.true_and]
end
end Te
end Go.Pd
