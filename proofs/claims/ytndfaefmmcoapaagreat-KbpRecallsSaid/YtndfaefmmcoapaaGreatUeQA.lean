/- Part QA. -/
import Derived.Test.YtndfaefmmcoapaaGreatUeS5
import Derived.Test.YtndfaefmmcoapaaGreatUeP7
import Derived.Test.YtndfaefmmcoapaaGreatUeC2
set_option linter.unusedSectionVars false
set_option linter.unusedVariables false
set_option linter.unusedSimpArgs false
set_option linter.defProp false
set_option maxRecDepth 20000
set_option maxHeartbeats 1000000
namespace Go.Pd
open Go Go.Proofs
section
open Rs Fm Ru Te
namespace Te
theorem aIa {nx:Nat} {xS:List (Nat × Ob)} (hu:aM ⟨nx,xS⟩) (nx':Nat) (ob:Ob):∀ k o,St.look xS k=some o->St.get ⟨nx',(nx,ob) :: xS⟩ k=some o:=fun k o hk=>by have:=(hu k o hk).1;simp only at this;show St.look (_ :: _) k=_;rw [xY,if_neg (by omega)]; exact hk
end Te
end
section
open Rs Fm Ru Te
end
section
open Rs Fm Ru Te
theorem qS (c:Nat):∀ {l:List (Nat × Ob)} {k:Nat} {o:Ob},St.look l k=some o->St.look (yM c l) (c+k)= some (o.shift c)
 | [],k,o,h=>by cases h
 | (j,ob) :: r,k,o,h=>by
  rw [xY] at h;show St.look ((c+j,ob.shift c) :: yM c r) _=_;rw [xY]
  by_cases e:j=k
  ·rw [if_pos e] at h; rw [if_pos (by omega)]; cases h; rfl
  ·rw [if_neg e] at h; rw [if_neg (by omega)]; exact qS c h
namespace Te
def aFx (s:qL) (f:List Nd):Int:=if chk s≠0 then chk s else if yY f≠0 then yY f else if (qI .andNot .i64 (wX f:Int) 271 != 0)= true then 10 else if rO f s.ag s.fa=false then 2 else 0
theorem oW {s:qL} {f:List Nd} (h:aFx s f=0):chk s=0/\yY f=0:=by
 unfold aFx at h
 by_cases c1:chk s≠0
 ·rw [if_pos c1] at h; exact absurd h c1
 rw [if_neg c1] at h
 by_cases c2:yY f≠0
 ·rw [if_pos c2] at h; exact absurd h c2
 exact⟨by simpa using c1,by simpa using c2⟩
end Te
end
section
open Rs Fm Ru Te
namespace Te
end Te
end
open Rs Fm Ru Te
namespace Te
def pt (T p:Nat):Nat × Nat:=(p / T,p % T)
def bH (rs:List zZ) (g:Nat) (m:Bool) (p q:Nat × Nat) (a:Nat):Bool:=(List.range a).all fun b=>!g.testBit b || (decide (zH rs b p=zH rs b q)== m)
end Te
open Ru
namespace Ru
def jN (rs:List zZ) (l:List (Nat × Nat)) (A F:Nat):oB:=⟨(l.length:Int),bJ rs l F,nA rs l A⟩
def vF (R t:Nat):List (Nat × Nat):=(List.range R).map fun r=>(r,t)
theorem aYw (R t:Nat):(vF R t).length=R:=by simp [vF]
theorem sE {k:Nat} (hk:k<64) (i:Nat):(1#64 <<< k).getLsbD i=decide (i=k):=by
 by_cases hi:i<64
 ·have:∀ k,k<64->∀ i,i<64->(1#64 <<< k).getLsbD i=decide (i=k):=by decide
  exact this k hk i hi
 ·rw [BitVec.getLsbD_of_ge _ _ (by omega)];exact(decide_eq_false (by omega)).symm
theorem aJ {rs:List zZ} {l:List (Nat × Nat)} {f:Nat}:∀ (k i:Nat),k<=64->(eB rs l f k).getLsbD i=(decide (i<k)&& (aJ1 rs (l.getD i (0,0))).getLsbD f)
 | 0,i,_=>by simp [eB]
 | k+1,i,hk=>by
  unfold eB;rw [BitVec.getLsbD_or,aJ k i (by omega)]
  by_cases e:i=k
  ·subst e
   cases hb:(aJ1 rs (l.getD i (0,0))).getLsbD f
   ·simp
   ·rw [if_pos rfl,sE (by omega)];simp
  ·have h2:(if (aJ1 rs (l.getD k (0,0))).getLsbD f=true then 1#64 <<< k else 0#64).getLsbD i=false:=by
    split
    ·rw [sE (by omega)]; exact decide_eq_false e
    ·exact BitVec.getLsbD_zero
   rw [h2,Bool.or_false];congr 1;rw [Bool.eq_iff_iff,decide_eq_true_iff,decide_eq_true_iff]; omega
theorem mL {rs:List zZ} {l:List (Nat × Nat)} {a:Nat} {x:Int}:∀ (k i:Nat),k<=64->(bH rs l a x k).getLsbD i=(decide (i<k)&& decide (zH rs a (l.getD i (0,0))= x))
 | 0,i,_=>by simp [bH]
 | k+1,i,hk=>by
  unfold bH;rw [BitVec.getLsbD_or,mL k i (by omega)]
  by_cases e:i=k
  ·subst e
   by_cases hb:zH rs a (l.getD i (0,0))= x
   ·rw [if_pos hb,sE (by omega),decide_eq_true hb];simp
   ·rw [if_neg hb,decide_eq_false hb];simp
  ·have h2:(if zH rs a (l.getD k (0,0))= x then 1#64 <<< k else 0#64).getLsbD i=false:=by
    split
    ·rw [sE (by omega)]; exact decide_eq_false e
    ·exact BitVec.getLsbD_zero
   rw [h2,Bool.or_false];congr 1;rw [Bool.eq_iff_iff,decide_eq_true_iff,decide_eq_true_iff]; omega
theorem aV0 {rs:List zZ} {A F T:Nat} (ok:OkR rs A F T) {l:List (Nat × Nat)} (h1:1<=l.length) (h2:l.length<=64):mT (jN rs l A F) l.length where
 w:=rfl
 hW:=⟨h1,h2⟩
 hV:=by have:=ok.hF; simp [jN,bJ]; exact this
 hR:=by have:=ok.hA; simp [jN,nA]; exact this
 row:=fun r hr=>by simp only [jN,nA,List.mem_map] at hr;obtain⟨a,_,rfl⟩:=hr;simp [lC]
 val:=fun x hx=>by simp only [jN,bJ,List.mem_map] at hx;obtain⟨f,_,rfl⟩:=hx;refine aVx h2 fun i hi=>?_;rw [aJ _ _ h2,Bool.and_eq_true] at hi;exact of_decide_eq_true hi.1
 rel:=fun r hr x hx=>by simp only [jN,nA,List.mem_map] at hr;obtain⟨a,_,rfl⟩:=hr;simp only [lC,List.mem_map] at hx;obtain⟨p,_,rfl⟩:=hx;refine aVx h2 fun i hi=>?_;rw [mL _ _ h2,Bool.and_eq_true] at hi;exact of_decide_eq_true hi.1
end Ru
open Rs Fm Ru Te
namespace Te
end Te
namespace Te
end Te
open Rs Fm Ru Te
namespace Te
def evT (rs:List zZ) (A T:Nat):Tr->Tab
 | .nil=>fun _=>false
 | .nd op i e g x y=>aQa rs A T ⟨op,i,e,g,0,0⟩ (evT rs A T x) (evT rs A T y)
theorem aL8 {rs:List zZ} {A T:Nat} {n m:Nd} {x y x' y':Tab} (h1:n.op=m.op) (h2:n.i=m.i) (h3:n.g=m.g) (hx:(xZ n.op).1.x=true->x=x') (hy:(xZ n.op).1.y=true->y=y') :
  aQa rs A T n x y=aQa rs A T m x' y':=by
 obtain⟨op,i,e,g,a,b⟩:=n;obtain⟨op',i',e',g',a',b'⟩:=m;simp only at h1 h2 h3 hx hy;subst h1 h2 h3;rcases uV op with rfl | rfl | rfl | rfl | rfl | rfl | rfl | rfl | rfl | rfl | rfl | rfl | rfl | rfl | rfl | rfl | rfl | rfl | rfl | rfl | rfl | h | h
 all_goals first
  | (have hx':=hx rfl; have hy':=hy rfl; subst hx' hy'; rfl)
  | (have hx':=hx rfl; subst hx'; rfl)
  | rfl
  | (unfold aQa bXu; simp only; funext p; repeat rw [if_neg (by omega)])
def okN (A F:Nat) (p:Nd):Bool:=decide (rV p &&& 3824=0)&& decide (vQ p / 2 ^ A=0)&& decide (rU p / 2 ^ F=0)
theorem rI {m:Nd->Nat} {φ:Nat->Nat} (h0:φ 0=0) (h:∀ a b,φ (a ||| b)= φ a ||| φ b) (l:List Nd):φ (yD m l)= yD (fun p=>φ (m p)) l:=by
 have key:∀ (l:List Nd) (a:Nat),φ (l.foldl (fun a p=>a ||| m p) a)= l.foldl (fun a p=>a ||| φ (m p)) (φ a):=by
  intro l
  induction l with
  | nil=>intro a; rfl
  | cons p r ih=>intro a; rw [List.foldl_cons,List.foldl_cons,ih,h]
 unfold yD;rw [key,h0]
theorem aXk {n:Nat} (h:n<4096):(qI .andNot .i64 (n:Int) 271 != 0)= !decide (n &&& 3824=0):=by
 have:∀ n:Fin 4096,(qI .andNot .i64 ((n.val:Nat):Int) 271 != 0)= !decide (n.val &&& 3824=0):=by decide +kernel
 exact this ⟨n,h⟩
theorem aCe {s:qL} {A F T:Nat} {rs:List zZ} (hs:s=⟨A,F,T,rs⟩) (hz:chk s=0) (ok:OkR rs A F T) {f:List Nd} (hc:yY f=0):aFx s f=0 ↔ ∀ p ∈ xC f,okN A F p=true:=by
 have hlt:wX f<4096:=by refine rL fun p _=>?_;have:=kL p.op;unfold rV; omega
 have e1:(wX f &&& 3824=0) ↔ ∀ p ∈ xC f,rV p &&& 3824=0:=by unfold wX;rw [rI (φ:=fun n=>n &&& 3824) (by decide) (fun a b=>Nat.and_or_distrib_right a b 3824),sP]
 have dv:∀ n a b:Nat,(a ||| b)/ 2 ^ n=a / 2 ^ n ||| b / 2 ^ n:=fun n a b=>by rw [<- Nat.shiftRight_eq_div_pow,<- Nat.shiftRight_eq_div_pow,<- Nat.shiftRight_eq_div_pow,Nat.shiftRight_or_distrib]
 have e2:sZ f / 2 ^ A=0 ↔ ∀ p ∈ xC f,vQ p / 2 ^ A=0:=by unfold sZ;rw [rI (φ:=fun n=>n / 2 ^ A) (by simp) (dv A),sP]
 have e3:nW f / 2 ^ F=0 ↔ ∀ p ∈ xC f,rU p / 2 ^ F=0:=by unfold nW;rw [rI (φ:=fun n=>n / 2 ^ F) (by simp) (dv F),sP]
 have hA:=ok.hA;have hF:=ok.hF
 have ef:rO f s.ag s.fa=true ↔ sZ f / 2 ^ A=0/\nW f / 2 ^ F=0:=by
  subst hs;unfold rO mP;simp only [Bool.and_eq_true,Bool.or_eq_true,decide_eq_true_eq,Int.toNat_natCast]
  constructor
  ·rintro ⟨⟨_,h1⟩,h2⟩; exact⟨h1.resolve_left (by omega),h2.resolve_left (by omega)⟩
  ·rintro ⟨h1,h2⟩; exact⟨⟨hc,.inr h1⟩,.inr h2⟩
 unfold aFx;rw [if_neg (by simpa using hz),if_neg (by simpa using hc),aXk hlt]
 constructor
 ·intro h p hp
  by_cases c:wX f &&& 3824=0
  ·rw [if_neg (by simp [c])] at h
   cases h2:rO f s.ag s.fa with
   | false=>rw [h2,if_pos rfl] at h; cases h
   | true=> have h3:=ef.1 h2;unfold okN;simp only [Bool.and_eq_true,decide_eq_true_eq];exact⟨⟨e1.1 c p hp,e2.1 h3.1 p hp⟩,e3.1 h3.2 p hp⟩
  ·rw [if_pos (by simp [c])] at h; cases h
 ·intro h;have h':∀ p ∈ xC f,(rV p &&& 3824=0/\vQ p / 2 ^ A=0)/\ rU p / 2 ^ F=0:=fun p hp=>by simpa [okN] using h p hp
  have c:wX f &&& 3824=0:=e1.2 fun p hp=>(h' p hp).1.1;rw [if_neg (by simp [c]),ef.2 ⟨e2.2 fun p hp=>(h' p hp).1.2,e3.2 fun p hp=>(h' p hp).2⟩,if_neg (by decide)]
end Te
namespace Fm
end Fm
namespace Te
end Te
open Rs Fm Ru Te
namespace Te
def bXf (φ:Nat->Bool):Nat->BitVec 64
 | 0=>0#64
 | k+1=>bXf φ k ||| (if φ k=true then 1#64 <<< k else 0#64)
theorem aSl {φ:Nat->Bool}:∀ (k i:Nat),k<=64->(bXf φ k).getLsbD i=(decide (i<k)&& φ i)
 | 0,i,_=>by simp [bXf]
 | k+1,i,hk=>by
  unfold bXf;rw [BitVec.getLsbD_or,aSl k i (by omega)]
  by_cases e:i=k
  ·subst e
   cases hb:φ i
   ·simp
   ·rw [if_pos rfl,sE (by omega)];simp
  ·have h2:(if φ k=true then 1#64 <<< k else 0#64).getLsbD i=false:=by
    split
    ·rw [sE (by omega)]; exact decide_eq_false e
    ·exact BitVec.getLsbD_zero
   rw [h2,Bool.or_false];congr 1;exact decide_eq_decide.2 (by omega)
def pB (T W:Nat) (x:Tab):BitVec 64:=bXf (fun w=>x (pt T w)) W
theorem yT {T W:Nat} {x:Tab} (hW:W<=64) (i:Nat):(pB T W x).getLsbD i=(decide (i<W)&& x (pt T i)):=aSl W i hW
theorem jX {a b:BitVec 64} (h:∀ i,i<64->a.getLsbD i=b.getLsbD i):a=b:=BitVec.eq_of_getLsbD_eq h
theorem aRj (r:List (BitVec 64)) (s:BitVec 64):∀ (k i:Nat),k<=64->(aR3 r s k).getLsbD i=(decide (i<k)&& (r.getD i 0 &&& ~~~s==0#64))
 | 0,i,_=>by simp [aR3]
 | k+1,i,hk=>by
  unfold aR3
  have e1:(if (r.getD k 0 &&& ~~~s==0#64)= true then aR3 r s k ||| 1#64 <<< k else aR3 r s k)= aR3 r s k ||| (if (r.getD k 0 &&& ~~~s==0#64)= true then 1#64 <<< k else 0#64):=by
   split
   ·rfl
   ·exact BitVec.or_zero.symm
  rw [e1,BitVec.getLsbD_or,aRj r s k i (by omega)]
  by_cases e:i=k
  ·subst e
   cases hb:(r.getD i 0 &&& ~~~s==0#64)
   ·simp
   ·rw [if_pos rfl,sE (by omega)];simp
  ·have h2:(if (r.getD k 0 &&& ~~~s==0#64)= true then 1#64 <<< k else 0#64).getLsbD i=false:=by
    split
    ·rw [sE (by omega)]; exact decide_eq_false e
    ·exact BitVec.getLsbD_zero
   rw [h2,Bool.or_false];congr 1;exact decide_eq_decide.2 (by omega)
theorem aNt {a s:BitVec 64}:(a &&& ~~~s==0#64)= true ↔ ∀ v,v<64->a.getLsbD v=true->s.getLsbD v=true:=by
 rw [beq_iff_eq]
 constructor
 ·intro h v hv ha;have:=congrArg (·.getLsbD v) h;simp only [BitVec.getLsbD_and,BitVec.getLsbD_not,ha,hv,BitVec.getLsbD_zero] at this;simpa using this
 ·intro h;refine jX fun v hv=>?_;rw [BitVec.getLsbD_and,BitVec.getLsbD_not,BitVec.getLsbD_zero]
  cases ha:a.getLsbD v
  ·rfl
  ·rw [h v hv ha]; simp
theorem aNc {rs:List zZ} {T v:Nat} (h:v<rs.length*T):(ptl rs T).getD v (0,0)= pt T v:=aCi T h
theorem aAc {rs:List zZ} {T:Nat} {P:Nat × Nat->Bool}:(ptl rs T).all P=true ↔ ∀ v,v<rs.length*T->P (pt T v)= true:=by
 rw [List.all_eq_true]
 constructor
 ·intro h v hv;refine h _ ?_;unfold ptl ptN;exact List.mem_map.2 ⟨v,List.mem_range.2 hv,rfl⟩
 ·intro h q hq;unfold ptl ptN at hq;obtain⟨v,hv,rfl⟩:=List.mem_map.1 hq;exact h v (List.mem_range.1 hv)
def aDa (rs:List zZ) (T:Nat) (r:List (BitVec 64)) (ρ:Nat × Nat->Nat × Nat->Bool):Prop:= r.length=rs.length*T/\∀ w,w<rs.length*T->∀ v,(r.getD w 0).getLsbD v=(decide (v<rs.length*T)&& ρ (pt T w) (pt T v))
theorem gG {rs:List zZ} {T:Nat} (hW:rs.length*T<=64) {r:List (BitVec 64)} {ρ:Nat × Nat->Nat × Nat->Bool} (h:aDa rs T r ρ) {s:BitVec 64} {x:Tab} (hs:∀ v,v<rs.length*T->s.getLsbD v=x (pt T v)) :
  aX7 r s=pB T (rs.length*T) fun p=>(ptl rs T).all fun q=>!ρ p q || x q:=by
 obtain⟨hl,hr⟩:=h;refine jX fun i _=>?_;rw [yT hW,aX7,aRj r s _ i (by omega),hl]
 by_cases hi:i<rs.length*T
 ·rw [decide_eq_true hi,Bool.true_and,Bool.true_and,Bool.eq_iff_iff,aNt,aAc]
  constructor
  ·intro h v hv
   cases e:ρ (pt T i) (pt T v) with
   | false=>rfl
   | true=> have:=h v (by omega) (by rw [hr i hi v,decide_eq_true hv,e]; rfl);rw [hs v hv] at this;simpa using this
  ·intro h v _ ha;rw [hr i hi v,Bool.and_eq_true] at ha;have hv:=of_decide_eq_true ha.1;have:=h v hv;rw [ha.2] at this;rw [hs v hv];simpa using this
 ·rw [decide_eq_false hi,Bool.false_and,Bool.false_and]
section
variable {rs : List zZ} {A F T : Nat}
theorem aT5 {a:Nat} (ha:a<A) (hW:rs.length*T<=64):aDa rs T ((jN rs (ptl rs T) A F).R.getD a []) fun p q=>decide (zH rs a q=zH rs a p):=by
 have hl:(ptl rs T).length=rs.length*T:=tV T _
 have hg:(jN rs (ptl rs T) A F).R.getD a []=lC rs (ptl rs T) a:=by show (nA rs (ptl rs T) A).getD a []=_;simp [nA,List.getD,ha]
 rw [hg];refine⟨by simp [lC,hl],fun w hw v=>?_⟩
 have hw':(lC rs (ptl rs T) a).getD w 0=Ru.bH rs (ptl rs T) a (zH rs a (pt T w)) (rs.length*T):=by
  have h1:w<(ptl rs T).length:=by omega
  have h2:=aNc (rs:=rs) hw;rw [List.getD,List.getElem?_eq_getElem h1] at h2;simp only [Option.getD_some] at h2;simp only [lC,List.getD,List.getElem?_map,List.getElem?_eq_getElem h1,Option.map_some,Option.getD_some,h2,hl]
 rw [hw',mL _ _ hW]
 by_cases hv:v<rs.length*T
 ·rw [decide_eq_true hv,aNc hv]
 ·rw [decide_eq_false hv,Bool.false_and,Bool.false_and]
theorem fI {m:oB} {W:Nat} (ok:mT m W) (hW:rs.length*T=W) (hR:m.R.length=A) {g:Nat} (hg:1<=g/\g<2 ^ m.R.length) (meet:Bool) (hk:∀ a,a<A->aDa rs T (m.R.getD a []) fun p q=>decide (zH rs a q=zH rs a p)) :
  aDa rs T (wW m g meet) fun p q=>if meet=true then bZp rs A g p q else aE2 rs A g p q:=by
 obtain⟨⟨a0,ha0,hb0⟩,hl,hv⟩:=eM ok hg meet;refine⟨by rw [hl,hW],fun w hw v=>?_⟩;rw [hv w (by omega) v];unfold aOv;rw [hR] at ha0 ⊢
 have hbit:∀ a,a<A->((m.R.getD a []).getD w 0).getLsbD v=(decide (v<rs.length*T)&& decide (zH rs a (pt T w)= zH rs a (pt T v))):=fun a ha=>by rw [(hk a ha).2 w hw v];congr 1;exact decide_eq_decide.2 ⟨fun h=>h.symm,fun h=>h.symm⟩
 cases meet with
 | true=>
  show _=(decide (v<rs.length*T)&& bZp rs A g (pt T w) (pt T v));rw [if_pos rfl];unfold bZp
  by_cases hvw:v<rs.length*T
  ·rw [decide_eq_true hvw,Bool.true_and];refine aUa fun a ha=>?_;rw [hbit a (List.mem_range.1 ha),decide_eq_true hvw,Bool.true_and]
  ·rw [decide_eq_false hvw,Bool.false_and];refine Bool.eq_false_iff.2 fun h=>?_;rw [List.all_eq_true] at h;have:=h a0 (List.mem_range.2 ha0);rw [hb0,hbit a0 ha0,decide_eq_false hvw] at this;simp at this
 | false=>
  show _=(decide (v<rs.length*T)&& aE2 rs A g (pt T w) (pt T v));rw [if_neg (by decide)];unfold aE2
  by_cases hvw:v<rs.length*T
  ·rw [decide_eq_true hvw,Bool.true_and,Bool.eq_iff_iff,List.any_eq_true,List.any_eq_true]
   constructor
   ·rintro ⟨a,ha,h⟩;refine⟨a,ha,?_⟩
    rwa [hbit a (List.mem_range.1 ha),decide_eq_true hvw,Bool.true_and] at h
   ·rintro ⟨a,ha,h⟩;refine⟨a,ha,?_⟩
    rwa [hbit a (List.mem_range.1 ha),decide_eq_true hvw,Bool.true_and]
  ·rw [decide_eq_false hvw,Bool.false_and];refine Bool.eq_false_iff.2 fun h=>?_;rw [List.any_eq_true] at h;obtain⟨a,ha,h⟩:=h;rw [hbit a (List.mem_range.1 ha),decide_eq_false hvw] at h;simp at h
theorem aZ3 {g:Nat} {x:Tab} {p:Nat × Nat}:pU rs A T g x p=(ptl rs T).all fun q=>!aE2 rs A g p q || x q:=by
 rw [Bool.eq_iff_iff,aPs,List.all_eq_true]
 constructor
 ·intro h q hq
  cases e:aE2 rs A g p q with
  | false=>rfl
  | true=>rw [h q hq e]; rfl
 ·intro h q hq e;have:=h q hq;rw [e] at this;simpa using this
theorem aRs {W T:Nat} (hW:W<=64):qE W=pB T W fun _=>true:=by refine jX fun i hi=>?_;rw [rX hW hi,yT hW,Bool.and_true]
theorem oG {m:oB} {W:Nat} (ok:mT m W) (hW:rs.length*T=W) (hR:m.R.length=A) {g:Nat} (hg:1<=g/\g<2 ^ m.R.length) (hk:∀ a,a<A->aDa rs T (m.R.getD a []) fun p q=>decide (zH rs a q=zH rs a p)) (x y:Tab) :
  ∀ n,mZ (wW m g false) (qE W) (pB T W x) (pB T W y) n=pB T W (eA rs A T g x y n)
 | 0=>by have:=ok.hW; exact aRs this.2
 | n+1=>by
  have hW64:=ok.hW.2;show aX7 _ _=_;rw [oG ok hW hR hg hk x y n];have hrel:=fI ok hW hR hg false hk
  rw [gG (by omega) hrel (x:=fun q=>!x q || (y q&&eA rs A T g x y n q)) fun v hv=>?_]
  ·rw [hW];congr 1;funext p;simp only [Bool.false_eq_true,↓reduceIte];rw [<- aZ3];rfl
  ·rw [hW] at hv;simp only [BitVec.getLsbD_or,BitVec.getLsbD_and,BitVec.getLsbD_not,rX hW64 (show v<64 by omega),yT hW64,decide_eq_true hv,decide_eq_true (show v<64 by omega),Bool.true_and]
end
end Te
end Go.Pd
