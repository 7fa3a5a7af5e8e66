/- Part C5. -/
import Derived.Test.YtndfaefmmcoapaaGreatUaC4
set_option linter.unusedSectionVars false
set_option linter.unusedVariables false
set_option linter.unusedSimpArgs false
set_option linter.defProp false
set_option maxRecDepth 20000
set_option maxHeartbeats 1000000
namespace Go.Pd
open Go Go.Proofs
open Rs Fm Ru Te
namespace Te
def bX2 (φ:Nat->Bool):Nat->BitVec 64
 | 0=>0#64
 | k+1=>bX2 φ k ||| (if φ k=true then 1#64 <<< k else 0#64)
theorem aS2 {φ:Nat->Bool}:∀ (k i:Nat),k<=64->(bX2 φ k).getLsbD i=(decide (i<k)&& φ i)
 | 0,i,_=>by simp [bX2]
 | k+1,i,hk=>by
  unfold bX2;rw [BitVec.getLsbD_or,aS2 k i (by omega)]
  by_cases e:i=k
  ·subst e
   cases hb:φ i
   ·simp
   ·rw [if_pos rfl,rP (by omega)];simp
  ·have h2:(if φ k=true then 1#64 <<< k else 0#64).getLsbD i=false:=by
    split
    ·rw [rP (by omega)]; exact decide_eq_false e
    ·exact BitVec.getLsbD_zero
   rw [h2,Bool.or_false];congr 1;exact decide_eq_decide.2 (by omega)
def pH (T W:Nat) (x:Tab):BitVec 64:=bX2 (fun w=>x (pt T w)) W
theorem yV {T W:Nat} {x:Tab} (hW:W<=64) (i:Nat):(pH T W x).getLsbD i=(decide (i<W)&& x (pt T i)):=aS2 W i hW
theorem jI {a b:BitVec 64} (h:∀ i,i<64->a.getLsbD i=b.getLsbD i):a=b:=BitVec.eq_of_getLsbD_eq h
theorem aRx (r:List (BitVec 64)) (s:BitVec 64):∀ (k i:Nat),k<=64->(aQe r s k).getLsbD i=(decide (i<k)&& (r.getD i 0 &&& ~~~s==0#64))
 | 0,i,_=>by simp [aQe]
 | k+1,i,hk=>by
  unfold aQe
  have e1:(if (r.getD k 0 &&& ~~~s==0#64)= true then aQe r s k ||| 1#64 <<< k else aQe r s k)= aQe r s k ||| (if (r.getD k 0 &&& ~~~s==0#64)= true then 1#64 <<< k else 0#64):=by
   split
   ·rfl
   ·exact BitVec.or_zero.symm
  rw [e1,BitVec.getLsbD_or,aRx r s k i (by omega)]
  by_cases e:i=k
  ·subst e
   cases hb:(r.getD i 0 &&& ~~~s==0#64)
   ·simp
   ·rw [if_pos rfl,rP (by omega)];simp
  ·have h2:(if (r.getD k 0 &&& ~~~s==0#64)= true then 1#64 <<< k else 0#64).getLsbD i=false:=by
    split
    ·rw [rP (by omega)]; exact decide_eq_false e
    ·exact BitVec.getLsbD_zero
   rw [h2,Bool.or_false];congr 1;exact decide_eq_decide.2 (by omega)
theorem aN6 {a s:BitVec 64}:(a &&& ~~~s==0#64)= true ↔ ∀ v,v<64->a.getLsbD v=true->s.getLsbD v=true:=by
 rw [beq_iff_eq]
 constructor
 ·intro h v hv ha;have:=congrArg (·.getLsbD v) h;simp only [BitVec.getLsbD_and,BitVec.getLsbD_not,ha,hv,BitVec.getLsbD_zero] at this;simpa using this
 ·intro h;refine jI fun v hv=>?_;rw [BitVec.getLsbD_and,BitVec.getLsbD_not,BitVec.getLsbD_zero]
  cases ha:a.getLsbD v
  ·rfl
  ·rw [h v hv ha]; simp
theorem aNl {rs:List zG} {T v:Nat} (h:v<rs.length*T):(ptl rs T).getD v (0,0)= pt T v:=aC5 T h
theorem aAz {rs:List zG} {T:Nat} {P:Nat × Nat->Bool}:(ptl rs T).all P=true ↔ ∀ v,v<rs.length*T->P (pt T v)= true:=by
 rw [List.all_eq_true]
 constructor
 ·intro h v hv;refine h _ ?_;unfold ptl ptN;exact List.mem_map.2 ⟨v,List.mem_range.2 hv,rfl⟩
 ·intro h q hq;unfold ptl ptN at hq;obtain⟨v,hv,rfl⟩:=List.mem_map.1 hq;exact h v (List.mem_range.1 hv)
def aD0 (rs:List zG) (T:Nat) (r:List (BitVec 64)) (ρ:Nat × Nat->Nat × Nat->Bool):Prop:= r.length=rs.length*T/\∀ w,w<rs.length*T->∀ v,(r.getD w 0).getLsbD v=(decide (v<rs.length*T)&& ρ (pt T w) (pt T v))
theorem fO {rs:List zG} {T:Nat} (hW:rs.length*T<=64) {r:List (BitVec 64)} {ρ:Nat × Nat->Nat × Nat->Bool} (h:aD0 rs T r ρ) {s:BitVec 64} {x:Tab} (hs:∀ v,v<rs.length*T->s.getLsbD v=x (pt T v)) :
  aYq r s=pH T (rs.length*T) fun p=>(ptl rs T).all fun q=>!ρ p q || x q:=by
 obtain⟨hl,hr⟩:=h;refine jI fun i _=>?_;rw [yV hW,aYq,aRx r s _ i (by omega),hl]
 by_cases hi:i<rs.length*T
 ·rw [decide_eq_true hi,Bool.true_and,Bool.true_and,Bool.eq_iff_iff,aN6,aAz]
  constructor
  ·intro h v hv
   cases e:ρ (pt T i) (pt T v) with
   | false=>rfl
   | true=> have:=h v (by omega) (by rw [hr i hi v,decide_eq_true hv,e]; rfl);rw [hs v hv] at this;simpa using this
  ·intro h v _ ha;rw [hr i hi v,Bool.and_eq_true] at ha;have hv:=of_decide_eq_true ha.1;have:=h v hv;rw [ha.2] at this;rw [hs v hv];simpa using this
 ·rw [decide_eq_false hi,Bool.false_and,Bool.false_and]
section
variable {rs : List zG} {A F T : Nat}
theorem aSr {a:Nat} (ha:a<A) (hW:rs.length*T<=64):aD0 rs T ((qJ rs (ptl rs T) A F).R.getD a []) fun p q=>decide (wE rs a q=wE rs a p):=by
 have hl:(ptl rs T).length=rs.length*T:=qE T _
 have hg:(qJ rs (ptl rs T) A F).R.getD a []=rI rs (ptl rs T) a:=by show (rC rs (ptl rs T) A).getD a []=_;simp [rC,List.getD,ha]
 rw [hg];refine⟨by simp [rI,hl],fun w hw v=>?_⟩
 have hw':(rI rs (ptl rs T) a).getD w 0=Ru.gG rs (ptl rs T) a (wE rs a (pt T w)) (rs.length*T):=by
  have h1:w<(ptl rs T).length:=by omega
  have h2:=aNl (rs:=rs) hw;rw [List.getD,List.getElem?_eq_getElem h1] at h2;simp only [Option.getD_some] at h2;simp only [rI,List.getD,List.getElem?_map,List.getElem?_eq_getElem h1,Option.map_some,Option.getD_some,h2,hl]
 rw [hw',lQ _ _ hW]
 by_cases hv:v<rs.length*T
 ·rw [decide_eq_true hv,aNl hv]
 ·rw [decide_eq_false hv,Bool.false_and,Bool.false_and]
theorem eN {m:qL} {W:Nat} (ok:lZ m W) (hW:rs.length*T=W) (hR:m.R.length=A) {g:Nat} (hg:1<=g/\g<2 ^ m.R.length) (meet:Bool) (hk:∀ a,a<A->aD0 rs T (m.R.getD a []) fun p q=>decide (wE rs a q=wE rs a p)) :
  aD0 rs T (wU m g meet) fun p q=>if meet=true then bWn rs A g p q else aDs rs A g p q:=by
 obtain⟨⟨a0,ha0,hb0⟩,hl,hv⟩:=dD ok hg meet;refine⟨by rw [hl,hW],fun w hw v=>?_⟩;rw [hv w (by omega) v];unfold aO3;rw [hR] at ha0 ⊢
 have hbit:∀ a,a<A->((m.R.getD a []).getD w 0).getLsbD v=(decide (v<rs.length*T)&& decide (wE rs a (pt T w)= wE rs a (pt T v))):=fun a ha=>by rw [(hk a ha).2 w hw v];congr 1;exact decide_eq_decide.2 ⟨fun h=>h.symm,fun h=>h.symm⟩
 cases meet with
 | true=>
  show _=(decide (v<rs.length*T)&& bWn rs A g (pt T w) (pt T v));rw [if_pos rfl];unfold bWn
  by_cases hvw:v<rs.length*T
  ·rw [decide_eq_true hvw,Bool.true_and];refine aUv fun a ha=>?_;rw [hbit a (List.mem_range.1 ha),decide_eq_true hvw,Bool.true_and]
  ·rw [decide_eq_false hvw,Bool.false_and];refine Bool.eq_false_iff.2 fun h=>?_;rw [List.all_eq_true] at h;have:=h a0 (List.mem_range.2 ha0);rw [hb0,hbit a0 ha0,decide_eq_false hvw] at this;simp at this
 | false=>
  show _=(decide (v<rs.length*T)&& aDs rs A g (pt T w) (pt T v));rw [if_neg (by decide)];unfold aDs
  by_cases hvw:v<rs.length*T
  ·rw [decide_eq_true hvw,Bool.true_and,Bool.eq_iff_iff,List.any_eq_true,List.any_eq_true]
   constructor
   ·rintro ⟨a,ha,h⟩;refine⟨a,ha,?_⟩
    rwa [hbit a (List.mem_range.1 ha),decide_eq_true hvw,Bool.true_and] at h
   ·rintro ⟨a,ha,h⟩;refine⟨a,ha,?_⟩
    rwa [hbit a (List.mem_range.1 ha),decide_eq_true hvw,Bool.true_and]
  ·rw [decide_eq_false hvw,Bool.false_and];refine Bool.eq_false_iff.2 fun h=>?_;rw [List.any_eq_true] at h;obtain⟨a,ha,h⟩:=h;rw [hbit a (List.mem_range.1 ha),decide_eq_false hvw] at h;simp at h
theorem aWk {g:Nat} {x:Tab} {p:Nat × Nat}:oZ rs A T g x p=(ptl rs T).all fun q=>!aDs rs A g p q || x q:=by
 rw [Bool.eq_iff_iff,aPz,List.all_eq_true]
 constructor
 ·intro h q hq
  cases e:aDs rs A g p q with
  | false=>rfl
  | true=>rw [h q hq e]; rfl
 ·intro h q hq e;have:=h q hq;rw [e] at this;simpa using this
theorem aYd {W T:Nat} (hW:W<=64):pG W=pH T W fun _=>true:=by refine jI fun i hi=>?_;rw [rN hW hi,yV hW,Bool.and_true]
theorem nN {m:qL} {W:Nat} (ok:lZ m W) (hW:rs.length*T=W) (hR:m.R.length=A) {g:Nat} (hg:1<=g/\g<2 ^ m.R.length) (hk:∀ a,a<A->aD0 rs T (m.R.getD a []) fun p q=>decide (wE rs a q=wE rs a p)) (x y:Tab) :
  ∀ n,mB (wU m g false) (pG W) (pH T W x) (pH T W y) n=pH T W (cQ rs A T g x y n)
 | 0=>by have:=ok.hW; exact aYd this.2
 | n+1=>by
  have hW64:=ok.hW.2;show aYq _ _=_;rw [nN ok hW hR hg hk x y n];have hrel:=eN ok hW hR hg false hk
  rw [fO (by omega) hrel (x:=fun q=>!x q || (y q&&cQ rs A T g x y n q)) fun v hv=>?_]
  ·rw [hW];congr 1;funext p;simp only [Bool.false_eq_true,↓reduceIte];rw [<- aWk];rfl
  ·rw [hW] at hv;simp only [BitVec.getLsbD_or,BitVec.getLsbD_and,BitVec.getLsbD_not,rN hW64 (show v<64 by omega),yV hW64,decide_eq_true hv,decide_eq_true (show v<64 by omega),Bool.true_and]
end
end Te
open Rs Fm Ru Te
namespace Te
def pJ (A F:Nat) (n:Nd):Bool:= if n.op<1 then false else if n.op=3 then decide (n.i<(F:Int)) else if n.op<=8 then true else if n.op<=10 then decide (n.i<(A:Int)) else if n.op<=13 then decide (n.g<((2 ^ A:Nat):Int)) else false
theorem aHm {A F:Nat} {n:Nd} (h:n.op<1\/21<n.op):pJ A F n=false:=by rcases h with h | h <;> unfold pJ <;> repeat (first | rw [if_pos (by omega)] | rw [if_neg (by omega)])
theorem aCl {m:qL} {W:Nat} {n:Nd} {x y:BitVec 64} (h:n.op<1\/21<n.op):pL m W n x y=(0#64,false):=by unfold pL; repeat rw [if_neg (by omega)]
theorem bL {T W:Nat} {x y:Tab} (h:∀ v,v<W->x (pt T v)= y (pt T v)) (hW:W<=64):pH T W x=pH T W y:=by
 refine jI fun i _=>?_;rw [yV hW,yV hW]
 by_cases hi:i<W
 ·rw [h i hi]
 ·rw [decide_eq_false hi,Bool.false_and,Bool.false_and]
theorem aC3 {rs:List zG} {T v:Nat} (hv:v<rs.length*T):pt T v ∈ ptl rs T:=by unfold ptl ptN;exact List.mem_map.2 ⟨v,List.mem_range.2 hv,rfl⟩
theorem aF1 (rs:List zG) (A T g:Nat) (x y:Tab) {p:Nat × Nat} (hp:p ∈ ptl rs T):cQ rs A T g x y (rs.length*T+1) p=cQ rs A T g x y (rs.length*T) p:=by obtain⟨n,h1,h2⟩:=aF2 (rs:=rs) (A:=A) (T:=T) g x y;obtain⟨m,hm⟩:=Nat.exists_eq_add_of_le h1;rw [hm,eF h2 m p hp,show n+m+1=n+(m+1) by omega,eF h2 (m+1) p hp]
section
variable {rs : List zG} {A F T : Nat}
theorem aAm (ok:OkR rs A F T) (hW:rs.length*T<=64) {g:Nat} (hg:1<=g/\g<2 ^ A) (x y:Tab) :
  mB (wU (qJ rs (ptl rs T) A F) g false) (pG (rs.length*T)) (pH T (rs.length*T) x) (pH T (rs.length*T) y) (rs.length*T+1)= mB (wU (qJ rs (ptl rs T) A F) g false) (pG (rs.length*T)) (pH T (rs.length*T) x) (pH T (rs.length*T) y) (rs.length*T):=by
 have hl:(ptl rs T).length=rs.length*T:=qE T _;have h1:1<=rs.length*T:=Nat.mul_pos ok.hR.1 ok.hT.1;have hm:=aB (F:=F) ok (l:=ptl rs T) (by omega) (by omega);rw [hl] at hm;have hRl:(qJ rs (ptl rs T) A F).R.length=A:=by show (rC rs (ptl rs T) A).length=A; simp [rC]
 have hk:∀ a,a<A->aD0 rs T ((qJ rs (ptl rs T) A F).R.getD a []) fun p q=>decide (wE rs a q=wE rs a p):=fun a ha=>aSr ha hW;rw [nN hm rfl hRl (by rw [hRl]; exact hg) hk,nN hm rfl hRl (by rw [hRl]; exact hg) hk];exact bL (fun v hv=>aF1 rs A T g x y (aC3 hv)) hW
theorem aHc (ok:OkR rs A F T) (hW:rs.length*T<=64) {n:Nd} {k:Int} (hn:yK n k=0) {x y:BitVec 64} {tx ty:Tab} (hx:(xZ n.op).1.x=true->x=pH T (rs.length*T) tx) (hy:(xZ n.op).1.y=true->y=pH T (rs.length*T) ty) :
  pL (qJ rs (ptl rs T) A F) (rs.length*T) n x y=if pJ A F n=true then(pH T (rs.length*T) (aQl rs A T n tx ty),true) else(0#64,false):=by
 have hl:(ptl rs T).length=rs.length*T:=qE T _;have h1:1<=rs.length*T:=Nat.mul_pos ok.hR.1 ok.hT.1;have hm:=aB (F:=F) ok (l:=ptl rs T) (by omega) (by omega);rw [hl] at hm;have hRl:(qJ rs (ptl rs T) A F).R.length=A:=by show (rC rs (ptl rs T) A).length=A; simp [rC]
 have hVl:(qJ rs (ptl rs T) A F).V.length=F:=by show (mG rs (ptl rs T) F).length=F; simp [mG]
 have hk:∀ a,a<A->aD0 rs T ((qJ rs (ptl rs T) A F).R.getD a []) fun p q=>decide (wE rs a q=wE rs a p):=fun a ha=>aSr ha hW
 have hVg:∀ f,f<F->∀ i,((qJ rs (ptl rs T) A F).V.getD f 0).getLsbD i=(decide (i<rs.length*T)&& (aYo rs (pt T i)).getLsbD f):=fun f hf i=>by
  have e:(qJ rs (ptl rs T) A F).V.getD f 0=rD rs (ptl rs T) f (ptl rs T).length:=by show (mG rs (ptl rs T) F).getD f 0=_;simp [mG,List.getD,hf]
  rw [e,hl,aXi _ _ hW]
  by_cases hi:i<rs.length*T
  ·rw [aNl hi]
  ·rw [decide_eq_false hi,Bool.false_and,Bool.false_and]
 have hi0:n.op=3\/n.op=9\/n.op=10->0<=n.i:=fun h=>by
  rcases h with h | h | h
  ·exact(mT hn (by rw [h]; rfl)).1
  ·exact(tT hn (by rw [h]; rfl)).1
  ·exact(tT hn (by rw [h]; rfl)).1
 have hg0:n.op=11\/n.op=12\/n.op=13->1<=n.g/\n.g<=15:=fun h=>by
  have hgr:(xZ n.op).1.gr=true:=by rcases h with h | h | h <;> rw [h] <;> rfl
  have h1:=(wR.1 hn).2.2.2.2;simp only [Bool.or_eq_false_iff,hgr,xM,Bool.true_and,decide_eq_false_iff_not] at h1;omega
 obtain⟨op,i,e,g,a,b⟩:=n;simp only at hi0 hg0 hx hy;generalize hm':qJ rs (ptl rs T) A F=m at *;generalize hWW:rs.length*T=W at *;have fin:∀ {p q:BitVec 64},(∀ v,v<64->p.getLsbD v=q.getLsbD v)->(p,true)= (q,true):=fun h=>by rw [jI h]
 rcases uL op with rfl | rfl | rfl | rfl | rfl | rfl | rfl | rfl | rfl | rfl | rfl | rfl | rfl | rfl | rfl | rfl | rfl | rfl | rfl | rfl | rfl | h | h
 ·show (pG W,true)= (pH T W fun _=>true,true);rw [aYd hW]
 ·show (0#64,true)= (pH T W fun _=>false,true);refine fin fun v _=>?_;rw [yV hW,Bool.and_false,BitVec.getLsbD_zero]
 ·have h0:=hi0 (.inl rfl);show (if i<(m.V.length:Int) then(m.V.getD i.toNat 0,true) else(0#64,false))= if decide (i<(F:Int))= true then(pH T W fun p=>(aYo rs p).getLsbD i.toNat,true) else(0#64,false);rw [hVl]
  by_cases hlt:i<(F:Int)
  ·rw [if_pos hlt,if_pos (decide_eq_true hlt)];refine fin fun v _=>?_;rw [hVg i.toNat (by omega),yV hW]
  ·rw [if_neg hlt,if_neg (by simpa using hlt)]
 ·have hx:=hx rfl;show (pG W &&& ~~~x,true)= (pH T W fun p=>!tx p,true);refine fin fun v hv=>?_;rw [hx,BitVec.getLsbD_and,BitVec.getLsbD_not,rN hW hv,yV hW,yV hW,decide_eq_true hv];cases decide (v<W) <;> simp
 ·have hx:=hx rfl;have hy:=hy rfl;show (x &&& y,true)= (pH T W fun p=>tx p&&ty p,true);refine fin fun v hv=>?_;rw [hx,hy,BitVec.getLsbD_and,yV hW,yV hW,yV hW];cases decide (v<W) <;> simp
 ·have hx:=hx rfl;have hy:=hy rfl;show (x ||| y,true)= (pH T W fun p=>tx p || ty p,true);refine fin fun v hv=>?_;rw [hx,hy,BitVec.getLsbD_or,yV hW,yV hW,yV hW];cases decide (v<W) <;> simp
 ·have hx:=hx rfl;have hy:=hy rfl;show (pG W &&& ~~~x ||| y,true)= (pH T W fun p=>!tx p || ty p,true);refine fin fun v hv=>?_;rw [hx,hy,BitVec.getLsbD_or,BitVec.getLsbD_and,BitVec.getLsbD_not,rN hW hv,yV hW,yV hW,yV hW,decide_eq_true hv];cases decide (v<W) <;> simp
 ·have hx:=hx rfl;have hy:=hy rfl;show (pG W &&& ~~~(x ^^^ y),true)= (pH T W fun p=>tx p==ty p,true);refine fin fun v hv=>?_;rw [hx,hy,BitVec.getLsbD_and,BitVec.getLsbD_not,BitVec.getLsbD_xor,rN hW hv,yV hW,yV hW,yV hW,decide_eq_true hv];cases decide (v<W) <;> cases tx (pt T v) <;> cases ty (pt T v) <;> rfl
 ·have h0:=hi0 (.inr (.inl rfl));have hx:=hx rfl;show (if i<(m.R.length:Int) then(aYq (m.R.getD i.toNat []) x,true) else(0#64,false))= if decide (i<(A:Int))= true then(pH T W (lX rs T i.toNat tx),true) else(0#64,false);rw [hRl]
  by_cases hlt:i<(A:Int)
  ·rw [if_pos hlt,if_pos (decide_eq_true hlt)];have:=fO (by omega) (hk i.toNat (by omega)) (s:=x) (x:=tx) fun v hv=>by rw [hx,yV hW,decide_eq_true (by omega),Bool.true_and]
   rw [this,hWW];rfl
  ·rw [if_neg hlt,if_neg (by simpa using hlt)]
 ·have h0:=hi0 (.inr (.inr rfl));have hx:=hx rfl;show (if i<(m.R.length:Int) then(bXm (m.R.getD i.toNat []) x,true) else(0#64,false))= if decide (i<(A:Int))= true then(pH T W fun p=>!lX rs T i.toNat (fun q=>!tx q) p,true) else(0#64,false);rw [hRl]
  by_cases hlt:i<(A:Int)
  ·rw [if_pos hlt,if_pos (decide_eq_true hlt)];have hkk:=hk i.toNat (by omega);have:=fO (by omega) hkk (s:= ~~~x) (x:=fun q=>!tx q) fun v hv=>by rw [hx,BitVec.getLsbD_not,yV hW,decide_eq_true (show v<64 by omega),decide_eq_true (show v<W by omega),Bool.true_and,Bool.true_and]
   unfold bXm;rw [this,hkk.1,hWW];refine fin fun v hv=>?_;rw [BitVec.getLsbD_and,BitVec.getLsbD_not,rN hW hv,yV hW,yV hW,decide_eq_true hv];show (decide (v<W)&& (true&&!(decide (v<W)&& lX rs T i.toNat (fun q=>!tx q) (pt T v))))= _;cases decide (v<W) <;> simp
  ·rw [if_neg hlt,if_neg (by simpa using hlt)]
 ·have h0:=hg0 (.inl rfl);have hx:=hx rfl;show (if g<((2 ^ m.R.length:Nat):Int) then(aYq (wU m g.toNat false) x,true) else(0#64,false))= if decide (g<((2 ^ A:Nat):Int))= true then(pH T W (oZ rs A T g.toNat tx),true) else(0#64,false);rw [hRl]
  by_cases hlt:g<((2 ^ A:Nat):Int)
  ·rw [if_pos hlt,if_pos (decide_eq_true hlt)];have hrel:=eN hm hWW hRl (g:=g.toNat) (by rw [hRl]; omega) false hk;have:=fO (by omega) hrel (s:=x) (x:=tx) fun v hv=>by rw [hx,yV hW,decide_eq_true (by omega),Bool.true_and]
   rw [this,hWW];refine congrArg (fun z=>(z,true)) (bL (fun v _=>?_) hW);rw [aWk];rfl
  ·rw [if_neg hlt,if_neg (by simpa using hlt)]
 ·have h0:=hg0 (.inr (.inl rfl));have hx:=hx rfl;show (if g<((2 ^ m.R.length:Nat):Int) then(aYq (wU m g.toNat true) x,true) else(0#64,false))= if decide (g<((2 ^ A:Nat):Int))= true then(pH T W (bYg rs A T g.toNat tx),true) else(0#64,false);rw [hRl]
  by_cases hlt:g<((2 ^ A:Nat):Int)
  ·rw [if_pos hlt,if_pos (decide_eq_true hlt)];have hrel:=eN hm hWW hRl (g:=g.toNat) (by rw [hRl]; omega) true hk;have:=fO (by omega) hrel (s:=x) (x:=tx) fun v hv=>by rw [hx,yV hW,decide_eq_true (by omega),Bool.true_and]
   rw [this,hWW];rfl
  ·rw [if_neg hlt,if_neg (by simpa using hlt)]
 ·have h0:=hg0 (.inr (.inr rfl));have hx:=hx rfl;have hy:=hy rfl;show (if g<((2 ^ m.R.length:Nat):Int) then(mB (wU m g.toNat false) (pG W) x y W,true) else(0#64,false))= if decide (g<((2 ^ A:Nat):Int))= true then(pH T W (aUt rs A T g.toNat tx ty),true) else(0#64,false);rw [hRl]
  by_cases hlt:g<((2 ^ A:Nat):Int)
  ·rw [if_pos hlt,if_pos (decide_eq_true hlt),hx,hy,nN hm hWW hRl (by rw [hRl]; omega) hk];unfold aUt;rw [hWW]
  ·rw [if_neg hlt,if_neg (by simpa using hlt)]
 all_goals first
  | rfl
  | (rw [aHm (by first | exact .inl h | exact .inr h),if_neg (by decide)]; exact aCl (by first | exact .inl h | exact .inr h))
end
end Te
end Go.Pd
