/- Part N5. -/
import Derived.Test.YtcniiejbcjijjaaDoorZmN3
set_option linter.unusedSectionVars false
set_option linter.unusedVariables false
set_option linter.unusedSimpArgs false
set_option linter.defProp false
set_option maxRecDepth 20000
set_option maxHeartbeats 1000000
open Go.Proofs.Tryd
open BitVec renaming getLsbD_and->γ,eq_of_getLsbD_eq->δ,getLsbD_not->ε
open Bool renaming and_eq_true->ζ,false_or->η
open List renaming replicate_succ->θ,replicate_zero->κ,map_replicate->μ
open Nat renaming pow_le_pow_right->ν
namespace Go.Pd
open Go Go.Proofs
open Mg
namespace Mg
theorem uw {a:BitVec 64}:(a==0#64)= true ↔ ∀ v,a.getLsbD v=false:=by
 rw [beq_iff_eq]
 constructor
 ·rintro rfl v; simp
 ·intro h;refine δ λi _=>?_;rw [h i]; simp
theorem xi {a:BitVec 64} (h:(a==0#64)= false):∃ v,a.getLsbD v=true:=by
 refine Classical.byContradiction λhn=>?_
 have:(a==0#64)= true:=uw.2 λv=>by
  cases hv:a.getLsbD v with
  | false=>rfl
  | true=>exact absurd ⟨v,hv⟩ hn
 rw [this] at h; cases h
theorem eI {a s:BitVec 64}:(a &&& ~~~s==0#64)= true ↔ ∀ v,a.getLsbD v=true->s.getLsbD v=true:=by
 rw [uw]
 constructor
 ·intro h v hv;have:=h v;rw [γ,hv,ε] at this
  have hlt:v<64:=by
   by_cases c:v<64
   ·exact c
   ·rw [BitVec.getLsbD_of_ge a v (by omega)] at hv; cases hv
  simpa [hlt] using this
 ·intro h v;rw [γ,ε]
  cases hv:a.getLsbD v with
  | false=>simp
  | true=>simp [h v hv]
theorem aS {n:Nat} {a:BitVec 64} (hn:n<=3) (h:∀ v,a.getLsbD v=true->v<2 ^ n):a.toNat<2 ^ 2 ^ n:=by
 have e:a=a &&& allM n:=by
  refine δ λi hi=>?_;rw [γ]
  cases hv:a.getLsbD i with
  | false=>rfl
  | true=>rw [(nR (by omega) i).2 (h i hv)]; rfl
 have h1:a.toNat<=(allM n).toNat:=by rw [e,BitVec.toNat_and]; exact Nat.and_le_right
 have h2:(allM n).toNat<2 ^ 2 ^ n:=by
  have:n=0\/n=1\/n=2\/n=3:=by omega
  rcases this with rfl | rfl | rfl | rfl <;> decide
 omega
theorem qe {n:Nat} {x:BitVec 64} (hx:x.toNat<2 ^ 2 ^ n) {v:Nat} (hv:x.getLsbD v=true):v<2 ^ n:=by refine Classical.byContradiction λhn=>?_;have h1:x.toNat.testBit v=true:=hv;have h2:2 ^ v<=x.toNat:=Nat.ge_two_pow_of_testBit h1;have h3:2 ^ 2 ^ n<=2 ^ v:=ν (by omega) (by omega);omega
theorem iK {n:Nat} {r:List Int} (hl:r.length=2 ^ n) (hn:n<=3) (s:BitVec 64):(zJ r s).toNat<2 ^ 2 ^ n:=
 aS hn λv hv=>by have:=(sC (by have:=mJ hn; omega) v).1 hv;rw [hl] at this;exact this.1
theorem mg {n:Nat} {r:List Int} (hn:n<=3) (hl:r.length=2 ^ n):∀ i,i<6->∀ x y:BitVec 64,x.toNat<2 ^ 2 ^ n->y.toNat<2 ^ 2 ^ n->rA i (zJ r (allM n)) (sA n r) x y=true:=by
 intro i hi x y hx hy;have hpp:=mJ hn;have hB:=λs v=>@sC r s (by omega) v;rw [hl] at hB;have hof:∀ z:BitVec 64,BitVec.ofNat 64 z.toNat=z:=λz=>by simp
 have tx:(sA n r).getD x.toNat 0=zJ r x:=by rw [lB hx,hof]
 have txy:(sA n r).getD (x &&& y).toNat 0=zJ r (x &&& y):=by rw [lB (Nat.lt_of_le_of_lt (xc x y) hx),hof]
 have hA:=λv=>nR (show n<=4 by omega) v
 match i,hi with
 | 0,_=> show ((sA n r).getD x.toNat 0 &&& ~~~x==0#64)= true;rw [tx,eI];exact λv hv=>((hB x v).1 hv).2.1
 | 1,_=>
  show (zJ r (allM n)&&& x==0#64 || (sA n r).getD x.toNat 0==zJ r (allM n)&&& x)= true;rw [tx]
  cases hc:(zJ r (allM n)&&& x==0#64) with
  | true=>rfl
  | false=>
   obtain⟨w,hw⟩:=xi hc;rw [γ,ζ] at hw;obtain⟨w1,w2,w3⟩:=(hB _ w).1 hw.1;rw [η,beq_iff_eq];refine kZ λv=>?_;rw [γ,ζ,hB,hB]
   constructor
   ·rintro ⟨h1,h2,h3⟩;exact⟨⟨h1,(hA v).2 h1,λu hu hau=>Int.le_trans (h3 w w1 hw.2) (w3 u hu hau)⟩,h2⟩
   ·rintro ⟨⟨h1,h2,h3⟩,h4⟩;exact⟨h1,h4,λu hu _=>h3 u hu ((hA u).2 hu)⟩
 | 2,_=>
  show (x==0#64 || (sA n r).getD x.toNat 0 != 0#64)= true;rw [tx]
  cases hc:(x==0#64) with
  | true=>rfl
  | false=> obtain⟨w,hw⟩:=xi hc;rw [η,bne_iff_ne];intro e;have:=(wv (by omega)).1 e w (by rw [hl]; exact qe hx hw);rw [hw] at this; cases this
 | 3,_=>rfl
 | 4,_=> show ((sA n r).getD x.toNat 0 &&& y &&& ~~~((sA n r).getD (x &&& y).toNat 0)== 0#64)= true;rw [tx,txy,eI];intro v hv;rw [γ,ζ] at hv;obtain⟨h1,h2,h3⟩:=(hB x v).1 hv.1;rw [hB];refine⟨h1,by rw [γ,h2,hv.2]; rfl,λu hu hxy=>h3 u hu ?_⟩;rw [γ,ζ] at hxy;exact hxy.1
 | 5,_=>
  show ((sA n r).getD x.toNat 0 &&& y==0#64 || (sA n r).getD (x &&& y).toNat 0 &&& ~~~((sA n r).getD x.toNat 0 &&& y)== 0#64)= true;rw [tx,txy]
  cases hc:(zJ r x &&& y==0#64) with
  | true=>rfl
  | false=> obtain⟨w,hw⟩:=xi hc;rw [γ,ζ] at hw;obtain⟨w1,w2,w3⟩:=(hB _ w).1 hw.1;rw [η,eI];intro v hv;obtain⟨h1,h2,h3⟩:=(hB _ v).1 hv;rw [γ,ζ] at h2;rw [γ,ζ,hB];exact⟨⟨h1,h2.1,λu hu hxu=>Int.le_trans (h3 w w1 (by rw [γ,w2,hw.2]; rfl)) (w3 u hu hxu)⟩,h2.2⟩
 | _+6,h=>exact absurd h (by omega)
theorem vn (k:Nat) (x:Int):sR (List.replicate k x)= k*x:=by
 induction k with
 | zero=>rw [κ,qZ]; simp
 | succ k ih=>rw [θ,uB,ih]; rw [Int.natCast_succ,Int.add_mul]; omega
theorem vc {k:Nat} {x:Int} (hk:1<=k) (hx:0<=x):uE (List.replicate k x)= x:=by
 induction k with
 | zero=>omega
 | succ k ih=>
  rw [θ,uY]
  by_cases c:k=0
  ·subst c; rw [κ,nV]; omega
  ·rw [ih (by omega)]; omega
theorem oq (k:Nat) (x:Int):wt (List.replicate k x)= k*64 ^ x.toNat:=by
 induction k with
 | zero=>simp [wt]
 | succ k ih=>rw [θ,wt,ih,Nat.succ_mul]; omega
theorem gk {way:Int} {k:Nat} {x y:Int} (hk:1<=k) (hx:0<=x) (hy:0<=y):cF way (List.replicate k x)<=cF way (List.replicate k y) ↔ x<=y:=by
 have hk0:0<k:=by omega
 unfold cF;rw [oq,oq,vc hk hx,vc hk hy,vn,vn]
 split
 ·rw [Int.ofNat_le,Nat.mul_le_mul_left_iff hk0]
  constructor
  ·intro h;apply Classical.byContradiction;intro hlt;have:64 ^ (y.toNat+1)<=64 ^ x.toNat:=ν (by omega) (by omega);have e:64 ^ (y.toNat+1)= 64 ^ y.toNat*64:=Nat.pow_succ ..;have:0<64 ^ y.toNat:=Nat.pow_pos (by omega);omega
  ·intro h;exact ν (by omega) (by omega)
 ·split
  ·exact Iff.rfl
  ·constructor
   ·intro h;exact Int.le_of_mul_le_mul_left h (by omega)
   ·intro h;exact Int.mul_le_mul_of_nonneg_left h (by omega)
theorem rv {way:Int} {n k:Nat} {a c:BitVec 64} (hn:n<=4) (hk:1<=k) (hk4:k<=4):rZ way n (List.replicate k a) c=zJ (wC n a) c:=by
 have h16:=vK hn;refine kZ λv=>?_;rw [iV hn (by simp; omega),sC (by simp [wC]; omega),uL];have hlen:(wC n a).length=2 ^ n:=by simp [wC]
 have e2:∀ w,w<2 ^ n->(wC n a).getD w 0=vW n a w:=λw hw=>by simp [wC,List.getD,hw]
 have kk:∀ u,gX way n (List.replicate k a) v<=gX way n (List.replicate k a) u ↔ vW n a v<=vW n a u:=λu=>by unfold gX xL;rw [μ,μ];exact gk hk (wI n a v).1 (wI n a u).1
 rw [hlen]
 constructor
 ·rintro ⟨h1,h2,h3⟩;exact⟨h1,h2,λu hu hc=>by rw [e2 v h1,e2 u hu]; exact(kk u).1 (h3 u hu hc)⟩
 ·rintro ⟨h1,h2,h3⟩;exact⟨h1,h2,λu hu hc=>(kk u).2 (by have:=h3 u hu hc; rw [e2 v h1,e2 u hu] at this; exact this)⟩
end Mg
end Go.Pd

/- Part N6. -/
namespace Go.Pd
open Go Go.Proofs
open BitVec renaming isValue -> ZA
open Mg
namespace Mg
theorem nL (l:List (List Int)):∀ k,(zM l k).length<=k
 | 0=>by simp [zM]
 | k+1=>by
  have:=nL l k;unfold zM
  split
  ·omega
  ·rw [List.length_append]; simp only [List.length_singleton]; omega
theorem sq {way:Int} {n:Nat} {p:List (BitVec 64)} (hn:n<=4) (hp:p.length<=8):∀ x ∈ xE way n p,0<=x/\x<=1000:=by
 intro x hx;obtain⟨i,hi,rfl⟩:=List.getElem_of_mem hx;have hlen:=wK way n p;have e:(xE way n p)[i]=(xE way n p).getD i 0:=by simp [List.getD,hi]
 rw [e];refine⟨yi way n p i,?_⟩;rw [uX (by omega)];unfold mK;have h16:=vK hn
 split
 ·have h1:=nL (xP n p) (xP n p).length;have h2:((zM (xP n p) (xP n p).length).filter λx=>decide (xG x ((xP n p).getD i [])<0)).length<=_:=List.length_filter_le _ _;have h3:=iS n p;unfold pS;omega
 ·split
  ·rcases(gq (l:=xL n p i)).2 with h | h
   ·omega
   ·have:=(vN _ h).2; omega
  ·have h1:=(qC λx hx=>vN (n:=n) (p:=p) (v:=i) x hx).2;rw [tX] at h1;have:(p.length:Int)* n<=8*4:=Int.mul_le_mul (by omega) (by omega) (by omega) (by omega);omega
theorem ns (n:Nat) (x:BitVec 64):x &&& allM n &&& ~~~(allM n)= 0#64:=by rw [BitVec.and_assoc]; simp
end Mg
theorem aY : yY prog 5 [] (.bool true):=by
 have hM:=oS 1 2 [8#64] 6#64
 have eM:vP 1 2 [8#64] 6#64=(6#64,0):=by unfold vP;rw [if_neg (by decide),if_neg (by decide),if_neg (by decide)];have:=@cT 1 2 8#64 6#64 (by omega);show (rZ 1 2 [8#64] 6#64,0)= _;rw [this];decide +kernel
 rw [eM] at hM;have hD:=@iF 2 8#64 6#64 (by omega) (by decide) (by decide);have eD:zJ (wC 2 8#64) 6#64=6#64:=by decide +kernel
 rw [eD] at hD
 have hR:=@iH 1 1#64 [0#64,1#64,2#64,1#64] (by omega) (by decide) rfl (by decide) (by intro i hi x y hx hy;have hx':x.toNat<4:=hx;have hy':y.toNat<4:=hy;obtain⟨a,ha,rfl⟩:∃ a:Nat,a<4/\x=BitVec.ofNat 64 a:=⟨x.toNat,hx',by simp⟩;obtain⟨b,hb,rfl⟩:∃ b:Nat,b<4/\y=BitVec.ofNat 64 b:=⟨y.toNat,hy',by simp⟩;exact(by decide +kernel:∀ i,i<6->∀ a,a<4->∀ b,b<4->rA i 1#64 [0#64,1#64,2#64,1#64] (BitVec.ofNat 64 a) (BitVec.ofNat 64 b)= true) i hi a ha b hb)
 have b6:(ui 6#64==6)= true:=rfl;refine yP func5 k5 λhf=>?_;refine xC ?_;refine⟨rfl,.go (cq hM) ?_⟩;refine xC ?_;refine .go (cq hD) ?_;refine pI ?_;refine .go (cq hR) ?_;refine fD b6 ?_;exact .dv
theorem zu (n:Int) (q0 q1:BitVec 64) {c:Nat} (hc:c<256):yY prog 4 [.int .i64 n,.agg [.int .u64 (ui q0),.int .u64 (ui q1)],.int .u8 c] (.bool true):=by
 have hW:=aY;have hR:=λk h1 h4=>@jq q0 k h1 h4;have hr:(c:Int).tmod 4=((c % 4:Nat):Int):=by rw [Int.tmod_eq_emod_of_nonneg (by omega)]; omega
 have hw:IntKind.i64.wrap (1+((c % 4:Nat):Int))= ((1+c % 4:Nat):Int):=by rw [wrap_i64 (by omega)]; omega
 have hw0:IntKind.i64.wrap ((c % 4:Nat):Int)= ((c % 4:Nat):Int):=wrap_i64 (by omega);have hk:=hR (1+c % 4) (by omega) (by omega);obtain⟨k,hk1,hk4,hke⟩:∃ k:Nat,1<=k/\k<=4/\1+c % 4=k:=⟨1+c % 4,by omega,by omega,rfl⟩;rw [hke] at hk hw;have hC:=rS n (List.replicate k q0);have h4:¬ (4:Int)= 0:=by omega
 refine yP func4 k4 λhf=>?_;refine l7 hr hw0 hw h4 ?_;refine⟨rfl,.go (cq hk) ?_⟩;refine pI ?_;refine .go (cq hW) ?_;refine xC ?_;refine .go (cr hC) ?_;by_cases hz:yU n (List.replicate k q0)= 0
 case neg=>
  have e:(yU n (List.replicate k q0) != 0)= true:=by simpa using hz
  refine fD e ?_;refine .go (cq hW) ?_;refine xC ?_;exact .dv
 have e:(yU n (List.replicate k q0) != 0)= false:=by simpa using hz
 obtain⟨z1,z2,z3,z4⟩:=uM hz;obtain⟨m,rfl⟩:∃ m:Nat,n=m:=⟨n.toNat,by omega⟩;have hm:m<=4:=by omega
 have hA:=lX hm;have hcc:q1 &&& allM m &&& ~~~(allM m)= 0#64:=ns m q1
 have hb:rB m q0=0:=by have:=z4 q0 (List.mem_replicate.2 ⟨by omega,rfl⟩);simpa using this
 have hD:=iF hm hb hcc;have hMg:=λway:Nat=>oS (way:Int) m (List.replicate k q0) (q1 &&& allM m)
 have eM:∀ way:Nat,1<=way->way<=3->vP way m (List.replicate k q0) (q1 &&& allM m)= (zJ (wC m q0) (q1 &&& allM m),0):=λway h1 h3=>by unfold vP;rw [if_neg (by simpa using hz),if_neg (by omega),if_neg (by simpa using hcc)];show (rZ way m _ _,(0:Int))= _;rw [rv hm hk1 hk4]
 generalize zJ (wC m q0) (q1 &&& allM m)= w at *;have bw:(ui w != ui w)= false:=by simp
 refine fD e ?_;refine .go (cq hA) ?_;refine pI ?_;refine .go (cq hD) ?_;refine xC ?_
 refine xO (λway:Nat=>[(12,.int .i64 way),(11,.int .i64 0),(10,.int .u64 (ui w)),(9,.int .u64 (ui (q1 &&& allM m))),(8,.sl 1 (us (List.replicate k q0))),(0,.int .i64 m)]) (λ_=>⟨0,[]⟩) (λway=>1<=way/\way<=4) (λway=>4-way) 1 ⟨by omega,by omega⟩ ?_ ?_
 ·(refine cv [] [] ?_; simp only [zP,zQ,simprocAttr,-ZA,exists_eq_left',ne_eq,zR])
  try rfl
 intro way ⟨w1,w4⟩;refine yQ mixed ?_
 by_cases hw3:way<=3
 ·have hd:((way:Int)<=3):=by omega
  have h:=hMg way;rw [eM way w1 hw3] at h;refine yN hd ?_;refine .go (cr h) ?_;refine fD bw ?_;refine⟨way+1,by omega,?_,by omega⟩;exact vR
 ·have hd:¬ ((way:Int)<=3):=by omega
  refine yN hd ?_;exact .dv
theorem lF (n:Int) (p:List (BitVec 64)) (q0 q1:BitVec 64):yY prog 3 [.int .i64 n,.sl 1 (us p),.agg [.int .u64 (ui q0),.int .u64 (ui q1)]] (.bool true):=by
 have hW:=aY;have hC:=rS n p;refine yP func3 k3 λhf=>?_;simp only [D.tV,D.fact,yC] at hf;refine pI ?_;refine .go (cq hW) ?_;by_cases c1:n<0
 case pos=> refine fD c1 ?_;refine .go (cq hW) ?_;refine xC ?_;exact .dv
 by_cases c2:(3:Int)<n
 case pos=> refine hU c1 c2 ?_;refine .go (cq hW) ?_;refine xC ?_;exact .dv
 by_cases c3:(5:Int)<(p.length:Int)
 case pos=> refine pk c1 c2 yC c3 ?_;refine .go (cq hW) ?_;refine xC ?_;exact .dv
 refine pk c1 c2 yC c3 ?_;refine .go (cr hC) ?_;by_cases hz:yU n p=0
 case neg=>
  have e:(yU n p != 0)= true:=by simpa using hz
  refine fD e ?_;refine .go (cq hW) ?_;refine xC ?_;exact .dv
 have e:(yU n p != 0)= false:=by simpa using hz
 obtain⟨z1,z2,z3,z4⟩:=uM hz;obtain⟨m,rfl⟩:∃ m:Nat,n=m:=⟨n.toNat,by omega⟩;have hm:m<=3:=by omega
 have hm4:m<=4:=by omega
 have hA:=lX hm4
 have hmod:(ui q0).tmod 3=((q0.toNat % 3:Nat):Int):=by have hu:ui q0=(q0.toNat:Int):=rfl;rw [hu,Int.tmod_eq_emod_of_nonneg (by omega)]; omega
 have hlt:q0.toNat % 3<3:=Nat.mod_lt _ (by decide);have hwi:IntKind.i64.wrap ((q0.toNat % 3:Nat):Int)= ((q0.toNat % 3:Nat):Int):=wrap_i64 (by omega)
 obtain⟨way,hw1,hw3,hwe⟩:∃ way:Nat,1<=way/\way<=3/\IntKind.i64.wrap (1+((q0.toNat % 3:Nat):Int))= (way:Int):=by refine⟨1+q0.toNat % 3,by omega,by omega,?_⟩;rw [wrap_i64 (by omega)];omega
 have hR:=wk way m p;have hMg:=λc=>oS way m p c
 have eR:oL way m p=(xE way m p,0):=by unfold oL;rw [if_neg (by simpa using hz),if_neg (by omega)];rfl
 have eM:∀ c:BitVec 64,c &&& ~~~(allM m)= 0#64->vP way m p c=(zJ (xE way m p) c,0):=λc hc=>by unfold vP;rw [if_neg (by simpa using hz),if_neg (by omega),if_neg (by simpa using hc)];rfl
 have hcc:q1 &&& allM m &&& ~~~(allM m)= 0#64:=ns m q1;have haa:allM m &&& ~~~(allM m)= 0#64:=by simp
 have hrl:=wK way m p;have hrr:=@sq way m p hm4 z3;have hV:=lP (q1 &&& allM m) hm4 hrl hrr;rw [if_neg (by simpa using hcc),if_neg (by simpa using hcc)] at hV;have hT:=fk hm hrl hrr;have hpost:=@mg m (xE way m p) hm hrl
 have hP:=@iH m (zJ (xE way m p) (allM m)) (sA m (xE way m p)) hm (iK hrl hm _) (nX _ _) (λi hi=>by
  rw [nX] at hi;rw [lB hi];exact iK hrl hm _) (λi hi x y hx hy=>by
  rw [nX] at hx hy;exact hpost i hi x y hx hy)
 rw [eR] at hR;have h1:=hMg (q1 &&& allM m);have h2:=hMg (allM m);rw [eM _ hcc] at h1;rw [eM _ haa] at h2;simp only at hR h1 h2;generalize sA m (xE way m p)= TB at *;generalize zJ (xE way m p) (allM m)= BA at *;generalize zJ (xE way m p) (q1 &&& allM m)= BC at *;generalize xE way m p=RR at *;have bw:(ui BC != ui BC)= false:=by simp
 have h3:¬ (3:Int)= 0:=by omega
 refine ug e hmod hwi hwe h3 ?_;refine .go (cq hA) ?_;refine pI ?_;refine .go (cr hR) ?_;refine xC ?_;refine .go (cr h1) ?_;refine xC ?_;refine .go (cr hV) ?_;refine xC ?_;refine .go (cr hT) ?_;refine xC ?_;refine .go (cr h2) ?_;refine fD bw ?_;refine .go (cr hP) ?_;refine pI ?_;exact .dv
end Go.Pd
