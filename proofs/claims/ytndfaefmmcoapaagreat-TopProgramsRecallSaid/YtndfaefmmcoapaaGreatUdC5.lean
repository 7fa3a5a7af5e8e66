/- Part C5. -/
import Derived.Test.YtndfaefmmcoapaaGreatUdC2
import Derived.Test.YtndfaefmmcoapaaGreatUdE1
set_option linter.unusedSectionVars false
set_option linter.unusedVariables false
set_option linter.unusedSimpArgs false
set_option linter.defProp false
set_option maxRecDepth 20000
set_option maxHeartbeats 1000000
namespace Go.Pd
open Go Go.Proofs
open Rs Fm Ru Te
namespace Te
def bY5 (φ:Nat->Bool):Nat->BitVec 64
 | 0=>0#64
 | k+1=>bY5 φ k ||| (if φ k=true then 1#64 <<< k else 0#64)
theorem aRr {φ:Nat->Bool}:∀ (k i:Nat),k<=64->(bY5 φ k).getLsbD i=(decide (i<k)&& φ i)
 | 0,i,_=>by simp [bY5]
 | k+1,i,hk=>by
  unfold bY5;rw [BitVec.getLsbD_or,aRr k i (by omega)]
  by_cases e:i=k
  ·subst e
   cases hb:φ i
   ·simp
   ·rw [if_pos rfl,rU (by omega)];simp
  ·have h2:(if φ k=true then 1#64 <<< k else 0#64).getLsbD i=false:=by
    split
    ·rw [rU (by omega)]; exact decide_eq_false e
    ·exact BitVec.getLsbD_zero
   rw [h2,Bool.or_false];congr 1;exact decide_eq_decide.2 (by omega)
def oL (T W:Nat) (x:Tab):BitVec 64:=bY5 (fun w=>x (pt T w)) W
theorem yV {T W:Nat} {x:Tab} (hW:W<=64) (i:Nat):(oL T W x).getLsbD i=(decide (i<W)&& x (pt T i)):=aRr W i hW
theorem jL {a b:BitVec 64} (h:∀ i,i<64->a.getLsbD i=b.getLsbD i):a=b:=BitVec.eq_of_getLsbD_eq h
theorem aQh (r:List (BitVec 64)) (s:BitVec 64):∀ (k i:Nat),k<=64->(aQx r s k).getLsbD i=(decide (i<k)&& (r.getD i 0 &&& ~~~s==0#64))
 | 0,i,_=>by simp [aQx]
 | k+1,i,hk=>by
  unfold aQx
  have e1:(if (r.getD k 0 &&& ~~~s==0#64)= true then aQx r s k ||| 1#64 <<< k else aQx r s k)= aQx r s k ||| (if (r.getD k 0 &&& ~~~s==0#64)= true then 1#64 <<< k else 0#64):=by
   split
   ·rfl
   ·exact BitVec.or_zero.symm
  rw [e1,BitVec.getLsbD_or,aQh r s k i (by omega)]
  by_cases e:i=k
  ·subst e
   cases hb:(r.getD i 0 &&& ~~~s==0#64)
   ·simp
   ·rw [if_pos rfl,rU (by omega)];simp
  ·have h2:(if (r.getD k 0 &&& ~~~s==0#64)= true then 1#64 <<< k else 0#64).getLsbD i=false:=by
    split
    ·rw [rU (by omega)]; exact decide_eq_false e
    ·exact BitVec.getLsbD_zero
   rw [h2,Bool.or_false];congr 1;exact decide_eq_decide.2 (by omega)
theorem aMo {a s:BitVec 64}:(a &&& ~~~s==0#64)= true ↔ ∀ v,v<64->a.getLsbD v=true->s.getLsbD v=true:=by
 rw [beq_iff_eq]
 constructor
 ·intro h v hv ha;have:=congrArg (·.getLsbD v) h;simp only [BitVec.getLsbD_and,BitVec.getLsbD_not,ha,hv,BitVec.getLsbD_zero] at this;simpa using this
 ·intro h;refine jL fun v hv=>?_;rw [BitVec.getLsbD_and,BitVec.getLsbD_not,BitVec.getLsbD_zero]
  cases ha:a.getLsbD v
  ·rfl
  ·rw [h v hv ha]; simp
theorem aN0 {rs:List xD} {T v:Nat} (h:v<rs.length*T):(ptl rs T).getD v (0,0)= pt T v:=aUq T h
theorem bX0 {rs:List xD} {T:Nat} {P:Nat × Nat->Bool}:(ptl rs T).all P=true ↔ ∀ v,v<rs.length*T->P (pt T v)= true:=by
 rw [List.all_eq_true]
 constructor
 ·intro h v hv;refine h _ ?_;unfold ptl ptN;exact List.mem_map.2 ⟨v,List.mem_range.2 hv,rfl⟩
 ·intro h q hq;unfold ptl ptN at hq;obtain⟨v,hv,rfl⟩:=List.mem_map.1 hq;exact h v (List.mem_range.1 hv)
def aCw (rs:List xD) (T:Nat) (r:List (BitVec 64)) (ρ:Nat × Nat->Nat × Nat->Bool):Prop:= r.length=rs.length*T/\∀ w,w<rs.length*T->∀ v,(r.getD w 0).getLsbD v=(decide (v<rs.length*T)&& ρ (pt T w) (pt T v))
theorem fO {rs:List xD} {T:Nat} (hW:rs.length*T<=64) {r:List (BitVec 64)} {ρ:Nat × Nat->Nat × Nat->Bool} (h:aCw rs T r ρ) {s:BitVec 64} {x:Tab} (hs:∀ v,v<rs.length*T->s.getLsbD v=x (pt T v)) :
  aY4 r s=oL T (rs.length*T) fun p=>(ptl rs T).all fun q=>!ρ p q || x q:=by
 obtain⟨hl,hr⟩:=h;refine jL fun i _=>?_;rw [yV hW,aY4,aQh r s _ i (by omega),hl]
 by_cases hi:i<rs.length*T
 ·rw [decide_eq_true hi,Bool.true_and,Bool.true_and,Bool.eq_iff_iff,aMo,bX0]
  constructor
  ·intro h v hv
   cases e:ρ (pt T i) (pt T v) with
   | false=>rfl
   | true=> have:=h v (by omega) (by rw [hr i hi v,decide_eq_true hv,e]; rfl);rw [hs v hv] at this;simpa using this
  ·intro h v _ ha;rw [hr i hi v,Bool.and_eq_true] at ha;have hv:=of_decide_eq_true ha.1;have:=h v hv;rw [ha.2] at this;rw [hs v hv];simpa using this
 ·rw [decide_eq_false hi,Bool.false_and,Bool.false_and]
section
variable {rs : List xD} {A F T : Nat}
theorem aRc {a:Nat} (ha:a<A) (hW:rs.length*T<=64):aCw rs T ((iZ rs (ptl rs T) A F).R.getD a []) fun p q=>decide (yQ rs a q=yQ rs a p):=by
 have hl:(ptl rs T).length=rs.length*T:=vN T _
 have hg:(iZ rs (ptl rs T) A F).R.getD a []=kE rs (ptl rs T) a:=by show (mA rs (ptl rs T) A).getD a []=_;simp [mA,List.getD,ha]
 rw [hg];refine⟨by simp [kE,hl],fun w hw v=>?_⟩
 have hw':(kE rs (ptl rs T) a).getD w 0=Ru.aF rs (ptl rs T) a (yQ rs a (pt T w)) (rs.length*T):=by
  have h1:w<(ptl rs T).length:=by omega
  have h2:=aN0 (rs:=rs) hw;rw [List.getD,List.getElem?_eq_getElem h1] at h2;simp only [Option.getD_some] at h2;simp only [kE,List.getD,List.getElem?_map,List.getElem?_eq_getElem h1,Option.map_some,Option.getD_some,h2,hl]
 rw [hw',lN _ _ hW]
 by_cases hv:v<rs.length*T
 ·rw [decide_eq_true hv,aN0 hv]
 ·rw [decide_eq_false hv,Bool.false_and,Bool.false_and]
theorem eI {m:nI} {W:Nat} (ok:lW m W) (hW:rs.length*T=W) (hR:m.R.length=A) {g:Nat} (hg:1<=g/\g<2 ^ m.R.length) (meet:Bool) (hk:∀ a,a<A->aCw rs T (m.R.getD a []) fun p q=>decide (yQ rs a q=yQ rs a p)) :
  aCw rs T (wU m g meet) fun p q=>if meet=true then aCn rs A g p q else aCs rs A g p q:=by
 obtain⟨⟨a0,ha0,hb0⟩,hl,hv⟩:=dD ok hg meet;refine⟨by rw [hl,hW],fun w hw v=>?_⟩;rw [hv w (by omega) v];unfold aNm;rw [hR] at ha0 ⊢
 have hbit:∀ a,a<A->((m.R.getD a []).getD w 0).getLsbD v=(decide (v<rs.length*T)&& decide (yQ rs a (pt T w)= yQ rs a (pt T v))):=fun a ha=>by rw [(hk a ha).2 w hw v];congr 1;exact decide_eq_decide.2 ⟨fun h=>h.symm,fun h=>h.symm⟩
 cases meet with
 | true=>
  show _=(decide (v<rs.length*T)&& aCn rs A g (pt T w) (pt T v));rw [if_pos rfl];unfold aCn
  by_cases hvw:v<rs.length*T
  ·rw [decide_eq_true hvw,Bool.true_and];refine aTb fun a ha=>?_;rw [hbit a (List.mem_range.1 ha),decide_eq_true hvw,Bool.true_and]
  ·rw [decide_eq_false hvw,Bool.false_and];refine Bool.eq_false_iff.2 fun h=>?_;rw [List.all_eq_true] at h;have:=h a0 (List.mem_range.2 ha0);rw [hb0,hbit a0 ha0,decide_eq_false hvw] at this;simp at this
 | false=>
  show _=(decide (v<rs.length*T)&& aCs rs A g (pt T w) (pt T v));rw [if_neg (by decide)];unfold aCs
  by_cases hvw:v<rs.length*T
  ·rw [decide_eq_true hvw,Bool.true_and,Bool.eq_iff_iff,List.any_eq_true,List.any_eq_true]
   constructor
   ·rintro ⟨a,ha,h⟩;refine⟨a,ha,?_⟩
    rwa [hbit a (List.mem_range.1 ha),decide_eq_true hvw,Bool.true_and] at h
   ·rintro ⟨a,ha,h⟩;refine⟨a,ha,?_⟩
    rwa [hbit a (List.mem_range.1 ha),decide_eq_true hvw,Bool.true_and]
  ·rw [decide_eq_false hvw,Bool.false_and];refine Bool.eq_false_iff.2 fun h=>?_;rw [List.any_eq_true] at h;obtain⟨a,ha,h⟩:=h;rw [hbit a (List.mem_range.1 ha),decide_eq_false hvw] at h;simp at h
theorem aW0 {g:Nat} {x:Tab} {p:Nat × Nat}:sP rs A T g x p=(ptl rs T).all fun q=>!aCs rs A g p q || x q:=by
 rw [Bool.eq_iff_iff,aOg,List.all_eq_true]
 constructor
 ·intro h q hq
  cases e:aCs rs A g p q with
  | false=>rfl
  | true=>rw [h q hq e]; rfl
 ·intro h q hq e;have:=h q hq;rw [e] at this;simpa using this
theorem aQq {W T:Nat} (hW:W<=64):pO W=oL T W fun _=>true:=by refine jL fun i hi=>?_;rw [rS hW hi,yV hW,Bool.and_true]
theorem nN {m:nI} {W:Nat} (ok:lW m W) (hW:rs.length*T=W) (hR:m.R.length=A) {g:Nat} (hg:1<=g/\g<2 ^ m.R.length) (hk:∀ a,a<A->aCw rs T (m.R.getD a []) fun p q=>decide (yQ rs a q=yQ rs a p)) (x y:Tab) :
  ∀ n,lY (wU m g false) (pO W) (oL T W x) (oL T W y) n=oL T W (tS rs A T g x y n)
 | 0=>by have:=ok.hW; exact aQq this.2
 | n+1=>by
  have hW64:=ok.hW.2;show aY4 _ _=_;rw [nN ok hW hR hg hk x y n];have hrel:=eI ok hW hR hg false hk
  rw [fO (by omega) hrel (x:=fun q=>!x q || (y q&&tS rs A T g x y n q)) fun v hv=>?_]
  ·rw [hW];congr 1;funext p;simp only [Bool.false_eq_true,↓reduceIte];rw [<- aW0];rfl
  ·rw [hW] at hv;simp only [BitVec.getLsbD_or,BitVec.getLsbD_and,BitVec.getLsbD_not,rS hW64 (show v<64 by omega),yV hW64,decide_eq_true hv,decide_eq_true (show v<64 by omega),Bool.true_and]
end
end Te
open Rs Fm Ru Te
namespace Te
def pS (A F:Nat) (n:Nd):Bool:= if n.op<1 then false else if n.op=3 then decide (n.i<(F:Int)) else if n.op<=8 then true else if n.op<=10 then decide (n.i<(A:Int)) else if n.op<=13 then decide (n.g<((2 ^ A:Nat):Int)) else false
theorem aH9 {A F:Nat} {n:Nd} (h:n.op<1\/21<n.op):pS A F n=false:=by rcases h with h | h <;> unfold pS <;> repeat (first | rw [if_pos (by omega)] | rw [if_neg (by omega)])
theorem aBh {m:nI} {W:Nat} {n:Nd} {x y:BitVec 64} (h:n.op<1\/21<n.op):pV m W n x y=(0#64,false):=by unfold pV; repeat rw [if_neg (by omega)]
theorem bF {T W:Nat} {x y:Tab} (h:∀ v,v<W->x (pt T v)= y (pt T v)) (hW:W<=64):oL T W x=oL T W y:=by
 refine jL fun i _=>?_;rw [yV hW,yV hW]
 by_cases hi:i<W
 ·rw [h i hi]
 ·rw [decide_eq_false hi,Bool.false_and,Bool.false_and]
theorem aBz {rs:List xD} {T v:Nat} (hv:v<rs.length*T):pt T v ∈ ptl rs T:=by unfold ptl ptN;exact List.mem_map.2 ⟨v,List.mem_range.2 hv,rfl⟩
theorem aEv (rs:List xD) (A T g:Nat) (x y:Tab) {p:Nat × Nat} (hp:p ∈ ptl rs T):tS rs A T g x y (rs.length*T+1) p=tS rs A T g x y (rs.length*T) p:=by obtain⟨n,h1,h2⟩:=aEw (rs:=rs) (A:=A) (T:=T) g x y;obtain⟨m,hm⟩:=Nat.exists_eq_add_of_le h1;rw [hm,kM h2 m p hp,show n+m+1=n+(m+1) by omega,kM h2 (m+1) p hp]
section
variable {rs : List xD} {A F T : Nat}
theorem bXm (ok:OkR rs A F T) (hW:rs.length*T<=64) {g:Nat} (hg:1<=g/\g<2 ^ A) (x y:Tab) :
  lY (wU (iZ rs (ptl rs T) A F) g false) (pO (rs.length*T)) (oL T (rs.length*T) x) (oL T (rs.length*T) y) (rs.length*T+1)= lY (wU (iZ rs (ptl rs T) A F) g false) (pO (rs.length*T)) (oL T (rs.length*T) x) (oL T (rs.length*T) y) (rs.length*T):=by
 have hl:(ptl rs T).length=rs.length*T:=vN T _;have h1:1<=rs.length*T:=Nat.mul_pos ok.hR.1 ok.hT.1;have hm:=aUy (F:=F) ok (l:=ptl rs T) (by omega) (by omega);rw [hl] at hm;have hRl:(iZ rs (ptl rs T) A F).R.length=A:=by show (mA rs (ptl rs T) A).length=A; simp [mA]
 have hk:∀ a,a<A->aCw rs T ((iZ rs (ptl rs T) A F).R.getD a []) fun p q=>decide (yQ rs a q=yQ rs a p):=fun a ha=>aRc ha hW;rw [nN hm rfl hRl (by rw [hRl]; exact hg) hk,nN hm rfl hRl (by rw [hRl]; exact hg) hk];exact bF (fun v hv=>aEv rs A T g x y (aBz hv)) hW
theorem aHw (ok:OkR rs A F T) (hW:rs.length*T<=64) {n:Nd} {k:Int} (hn:yE n k=0) {x y:BitVec 64} {tx ty:Tab} (hx:(xW n.op).1.x=true->x=oL T (rs.length*T) tx) (hy:(xW n.op).1.y=true->y=oL T (rs.length*T) ty) :
  pV (iZ rs (ptl rs T) A F) (rs.length*T) n x y=if pS A F n=true then(oL T (rs.length*T) (zH rs A T n tx ty),true) else(0#64,false):=by
 have hl:(ptl rs T).length=rs.length*T:=vN T _;have h1:1<=rs.length*T:=Nat.mul_pos ok.hR.1 ok.hT.1;have hm:=aUy (F:=F) ok (l:=ptl rs T) (by omega) (by omega);rw [hl] at hm;have hRl:(iZ rs (ptl rs T) A F).R.length=A:=by show (mA rs (ptl rs T) A).length=A; simp [mA]
 have hVl:(iZ rs (ptl rs T) A F).V.length=F:=by show (aH rs (ptl rs T) F).length=F; simp [aH]
 have hk:∀ a,a<A->aCw rs T ((iZ rs (ptl rs T) A F).R.getD a []) fun p q=>decide (yQ rs a q=yQ rs a p):=fun a ha=>aRc ha hW
 have hVg:∀ f,f<F->∀ i,((iZ rs (ptl rs T) A F).V.getD f 0).getLsbD i=(decide (i<rs.length*T)&& (aO9 rs (pt T i)).getLsbD f):=fun f hf i=>by
  have e:(iZ rs (ptl rs T) A F).V.getD f 0=cR rs (ptl rs T) f (ptl rs T).length:=by show (aH rs (ptl rs T) F).getD f 0=_;simp [aH,List.getD,hf]
  rw [e,hl,aXt _ _ hW]
  by_cases hi:i<rs.length*T
  ·rw [aN0 hi]
  ·rw [decide_eq_false hi,Bool.false_and,Bool.false_and]
 have hi0:n.op=3\/n.op=9\/n.op=10->0<=n.i:=fun h=>by
  rcases h with h | h | h
  ·exact(jR hn (by rw [h]; rfl)).1
  ·exact(tB hn (by rw [h]; rfl)).1
  ·exact(tB hn (by rw [h]; rfl)).1
 have hg0:n.op=11\/n.op=12\/n.op=13->1<=n.g/\n.g<=15:=fun h=>by
  have hgr:(xW n.op).1.gr=true:=by rcases h with h | h | h <;> rw [h] <;> rfl
  have h1:=(vZ.1 hn).2.2.2.2;simp only [Bool.or_eq_false_iff,hgr,xC,Bool.true_and,decide_eq_false_iff_not] at h1;omega
 obtain⟨op,i,e,g,a,b⟩:=n;simp only at hi0 hg0 hx hy;generalize hm':iZ rs (ptl rs T) A F=m at *;generalize hWW:rs.length*T=W at *;have fin:∀ {p q:BitVec 64},(∀ v,v<64->p.getLsbD v=q.getLsbD v)->(p,true)= (q,true):=fun h=>by rw [jL h]
 rcases lK op with rfl | rfl | rfl | rfl | rfl | rfl | rfl | rfl | rfl | rfl | rfl | rfl | rfl | rfl | rfl | rfl | rfl | rfl | rfl | rfl | rfl | h | h
 ·show (pO W,true)= (oL T W fun _=>true,true);rw [aQq hW]
 ·show (0#64,true)= (oL T W fun _=>false,true);refine fin fun v _=>?_;rw [yV hW,Bool.and_false,BitVec.getLsbD_zero]
 ·have h0:=hi0 (.inl rfl);show (if i<(m.V.length:Int) then(m.V.getD i.toNat 0,true) else(0#64,false))= if decide (i<(F:Int))= true then(oL T W fun p=>(aO9 rs p).getLsbD i.toNat,true) else(0#64,false);rw [hVl]
  by_cases hlt:i<(F:Int)
  ·rw [if_pos hlt,if_pos (decide_eq_true hlt)];refine fin fun v _=>?_;rw [hVg i.toNat (by omega),yV hW]
  ·rw [if_neg hlt,if_neg (by simpa using hlt)]
 ·have hx:=hx rfl;show (pO W &&& ~~~x,true)= (oL T W fun p=>!tx p,true);refine fin fun v hv=>?_;rw [hx,BitVec.getLsbD_and,BitVec.getLsbD_not,rS hW hv,yV hW,yV hW,decide_eq_true hv];cases decide (v<W) <;> simp
 ·have hx:=hx rfl;have hy:=hy rfl;show (x &&& y,true)= (oL T W fun p=>tx p&&ty p,true);refine fin fun v hv=>?_;rw [hx,hy,BitVec.getLsbD_and,yV hW,yV hW,yV hW];cases decide (v<W) <;> simp
 ·have hx:=hx rfl;have hy:=hy rfl;show (x ||| y,true)= (oL T W fun p=>tx p || ty p,true);refine fin fun v hv=>?_;rw [hx,hy,BitVec.getLsbD_or,yV hW,yV hW,yV hW];cases decide (v<W) <;> simp
 ·have hx:=hx rfl;have hy:=hy rfl;show (pO W &&& ~~~x ||| y,true)= (oL T W fun p=>!tx p || ty p,true);refine fin fun v hv=>?_;rw [hx,hy,BitVec.getLsbD_or,BitVec.getLsbD_and,BitVec.getLsbD_not,rS hW hv,yV hW,yV hW,yV hW,decide_eq_true hv];cases decide (v<W) <;> simp
 ·have hx:=hx rfl;have hy:=hy rfl;show (pO W &&& ~~~(x ^^^ y),true)= (oL T W fun p=>tx p==ty p,true);refine fin fun v hv=>?_;rw [hx,hy,BitVec.getLsbD_and,BitVec.getLsbD_not,BitVec.getLsbD_xor,rS hW hv,yV hW,yV hW,yV hW,decide_eq_true hv];cases decide (v<W) <;> cases tx (pt T v) <;> cases ty (pt T v) <;> rfl
 ·have h0:=hi0 (.inr (.inl rfl));have hx:=hx rfl;show (if i<(m.R.length:Int) then(aY4 (m.R.getD i.toNat []) x,true) else(0#64,false))= if decide (i<(A:Int))= true then(oL T W (vR rs T i.toNat tx),true) else(0#64,false);rw [hRl]
  by_cases hlt:i<(A:Int)
  ·rw [if_pos hlt,if_pos (decide_eq_true hlt)];have:=fO (by omega) (hk i.toNat (by omega)) (s:=x) (x:=tx) fun v hv=>by rw [hx,yV hW,decide_eq_true (by omega),Bool.true_and]
   rw [this,hWW];rfl
  ·rw [if_neg hlt,if_neg (by simpa using hlt)]
 ·have h0:=hi0 (.inr (.inr rfl));have hx:=hx rfl;show (if i<(m.R.length:Int) then(bYn (m.R.getD i.toNat []) x,true) else(0#64,false))= if decide (i<(A:Int))= true then(oL T W fun p=>!vR rs T i.toNat (fun q=>!tx q) p,true) else(0#64,false);rw [hRl]
  by_cases hlt:i<(A:Int)
  ·rw [if_pos hlt,if_pos (decide_eq_true hlt)];have hkk:=hk i.toNat (by omega);have:=fO (by omega) hkk (s:= ~~~x) (x:=fun q=>!tx q) fun v hv=>by rw [hx,BitVec.getLsbD_not,yV hW,decide_eq_true (show v<64 by omega),decide_eq_true (show v<W by omega),Bool.true_and,Bool.true_and]
   unfold bYn;rw [this,hkk.1,hWW];refine fin fun v hv=>?_;rw [BitVec.getLsbD_and,BitVec.getLsbD_not,rS hW hv,yV hW,yV hW,decide_eq_true hv];show (decide (v<W)&& (true&&!(decide (v<W)&& vR rs T i.toNat (fun q=>!tx q) (pt T v))))= _;cases decide (v<W) <;> simp
  ·rw [if_neg hlt,if_neg (by simpa using hlt)]
 ·have h0:=hg0 (.inl rfl);have hx:=hx rfl;show (if g<((2 ^ m.R.length:Nat):Int) then(aY4 (wU m g.toNat false) x,true) else(0#64,false))= if decide (g<((2 ^ A:Nat):Int))= true then(oL T W (sP rs A T g.toNat tx),true) else(0#64,false);rw [hRl]
  by_cases hlt:g<((2 ^ A:Nat):Int)
  ·rw [if_pos hlt,if_pos (decide_eq_true hlt)];have hrel:=eI hm hWW hRl (g:=g.toNat) (by rw [hRl]; omega) false hk;have:=fO (by omega) hrel (s:=x) (x:=tx) fun v hv=>by rw [hx,yV hW,decide_eq_true (by omega),Bool.true_and]
   rw [this,hWW];refine congrArg (fun z=>(z,true)) (bF (fun v _=>?_) hW);rw [aW0];rfl
  ·rw [if_neg hlt,if_neg (by simpa using hlt)]
 ·have h0:=hg0 (.inr (.inl rfl));have hx:=hx rfl;show (if g<((2 ^ m.R.length:Nat):Int) then(aY4 (wU m g.toNat true) x,true) else(0#64,false))= if decide (g<((2 ^ A:Nat):Int))= true then(oL T W (aUa rs A T g.toNat tx),true) else(0#64,false);rw [hRl]
  by_cases hlt:g<((2 ^ A:Nat):Int)
  ·rw [if_pos hlt,if_pos (decide_eq_true hlt)];have hrel:=eI hm hWW hRl (g:=g.toNat) (by rw [hRl]; omega) true hk;have:=fO (by omega) hrel (s:=x) (x:=tx) fun v hv=>by rw [hx,yV hW,decide_eq_true (by omega),Bool.true_and]
   rw [this,hWW];rfl
  ·rw [if_neg hlt,if_neg (by simpa using hlt)]
 ·have h0:=hg0 (.inr (.inr rfl));have hx:=hx rfl;have hy:=hy rfl;show (if g<((2 ^ m.R.length:Nat):Int) then(lY (wU m g.toNat false) (pO W) x y W,true) else(0#64,false))= if decide (g<((2 ^ A:Nat):Int))= true then(oL T W (pA rs A T g.toNat tx ty),true) else(0#64,false);rw [hRl]
  by_cases hlt:g<((2 ^ A:Nat):Int)
  ·rw [if_pos hlt,if_pos (decide_eq_true hlt),hx,hy,nN hm hWW hRl (by rw [hRl]; omega) hk];unfold pA;rw [hWW]
  ·rw [if_neg hlt,if_neg (by simpa using hlt)]
 all_goals first
  | rfl
  | (rw [aH9 (by first | exact .inl h | exact .inr h),if_neg (by decide)]; exact aBh (by first | exact .inl h | exact .inr h))
end
end Te
end Go.Pd
