/- Part BF. -/
import Derived.Test.YtjmfdgonjighpaaZqBA
import Derived.Test.YtjmfdgonjighpaaZqX9
import Derived.Test.YtjmfdgonjighpaaZqCode
import Derived.Test.YtjmfdgonjighpaaZqX6
import Derived.Shelf.SlSortCmp.NoneTotal
set_option linter.unusedSectionVars false
set_option linter.unusedVariables false
set_option linter.unusedSimpArgs false
set_option linter.defProp false
set_option maxRecDepth 20000
set_option maxHeartbeats 1000000
open Go.Proofs.Try
open List renaming length_append->γ,drop_eq_nil_of_le->δ,pairwise_append->ε,mem_singleton->ζ,mem_append->η,not_mem_nil->θ,length_take->κ,ext_getElem->μ
open Nat renaming le_refl->ν,le_add_right->ξ,zero_le->ο,lt_of_lt_of_le->π,add_sub_cancel->υ,lt_succ_self->χ,mul_one->ψ,add_zero->ω
open Array renaming getElem?_append_left->Aa,getElem?_eq_some_iff->Ab,getElem?_modify->Ac,ext_getElem?->Ad
open Bool renaming not_eq_true->Ae,and_eq_true->Af
namespace Go.Pd
open Go Go.Proofs
open BitVec renaming isValue -> ZA
open Rs Bd Fm
namespace Bd
def P5 (n m ks km kk kn:Nat) (S:List yH) (K:Mem) (nx:Nat) (xX:List (Nat × Ob)) (a b c:Nat):Prop:=
 ∃ (nx':Nat) (objs':List (Nat × Ob)) (kn' r:Nat) (S':List yH) (K':Mem),xU prog 48 [.ref ks 3 0 0,.int .i64 (a:Int),.int .i64 (b:Int),.int .i64 (c:Int)] ⟨nx,xX⟩ (.int .i64 (r:Int)) ⟨nx',objs'⟩/\ fJ ks km kk kn' S' K' nx' objs'/\TL ks km kk kn kn' nx nx' xX objs'/\OJ n S a b c r S' K' /\
  S'.length+1<=S.length+2 ^ m/\K'.length+1<=K.length+2 ^ m
end Bd
theorem od {n ks km kk m kn:Nat} {S:List yH} {K:Mem} {nx:Nat} {xX:List (Nat × Ob)} {a b c:Nat} (hI:sU n S) (hK:xt n S K) (hS:fJ ks km kk kn S K nx xX) (ha:a<S.length+2) (hb:b<S.length+2) (hc:c<S.length+2) (h:a=1\/b=c\/a=0):P5 n m ks km kk kn S K nx xX a b c:=by
 have hp:0<2 ^ m:=Nat.two_pow_pos _
 by_cases c1:a=1
 ·subst c1;refine⟨nx,xX,kn,b,S,K,?_,hS,.refl,⟨⟨[],by simp⟩,hI,hK,hb,(wq _ _ _).2.1,λw=>by rw [xA (i:=1) (by omega)]; rfl⟩,by omega,by omega⟩;refine yS func48 Ph λhf=>?_;refine xB ?_;exact .same
 have e1:((a:Int)== 1)= false:=by rw [beq_eq_false_iff_ne]; omega
 by_cases c2:b=c
 ·subst c2;refine⟨nx,xX,kn,b,S,K,?_,hS,.refl,⟨⟨[],by simp⟩,hI,hK,hb,(wq _ _ _).2.1,λw=>by unfold fj; split <;> rfl⟩,by omega,by omega⟩;refine yS func48 Ph λhf=>?_;refine yK e1 ?_;exact .same
 have e2:((b:Int)== (c:Int))= false:=by rw [beq_eq_false_iff_ne]; omega
 by_cases c3:a=0
 ·subst c3;refine⟨nx,xX,kn,c,S,K,?_,hS,.refl,⟨⟨[],by simp⟩,hI,hK,hc,(wq _ _ _).2.2,λw=>by rw [xA (i:=0) (by omega)]; rfl⟩,by omega,by omega⟩;refine yS func48 Ph λhf=>?_;refine sC e1 e2 ?_;exact .same
 rcases h with h | h | h
 ·exact absurd h c1
 ·exact absurd h c2
 ·exact absurd h c3
set_option maxHeartbeats 2000000 in
theorem ef {n ks km kk:Nat} (hn24:n<=24):∀ (m:Nat) {kn:Nat} {S:List yH} {K:Mem} {nx:Nat} {xX:List (Nat × Ob)} {a b c:Nat},sU n S->xt n S K->fJ ks km kk kn S K nx xX->a<S.length+2->b<S.length+2->c<S.length+2 ->
  n<=yv (uR S a) (uR S b) (uR S c)+ m->S.length+2 ^ m<=90000->K.length+2 ^ m<=90000->P5 n m ks km kk kn S K nx xX a b c:=by
 intro m
 induction m with
 | zero=>
  intro kn S K nx xX a b c hI hK hS ha hb hc hm hlS hlK;refine od hI hK hS ha hb hc ?_
  rcases Nat.lt_or_ge a 2 with h | h
  ·omega
  ·have:=(hI.mb h ha).1;have:=(wq (uR S a) (uR S b) (uR S c)).1;omega
 | succ m ih=>
  intro kn S K nx xX a b c hI hK hS ha hb hc hm hlS hlK;have hp2:2 ^ (m+1)= 2 ^ m+2 ^ m:=by rw [Nat.pow_succ]; omega
  have hp:0<2 ^ m:=Nat.two_pow_pos _;obtain⟨⟨l1,l2,l3,l4⟩,⟨n1,n2,n3,n4,n5,n6⟩,hs,hn,hmm,hk⟩:=id hS
  by_cases hsm:a=1\/b=c\/a=0
  ·exact od hI hK hS ha hb hc hsm
  have c1:¬ a=1:=λe=>hsm (.inl e);have c2:¬ b=c:=λe=>hsm (.inr (.inl e));have c3:¬ a=0:=λe=>hsm (.inr (.inr e));have e1:((a:Int)== 1)= false:=by rw [beq_eq_false_iff_ne]; omega
  have e2:((b:Int)== (c:Int))= false:=by rw [beq_eq_false_iff_ne]; omega
  have e3:((a:Int)== 0)= false:=by rw [beq_eq_false_iff_ne]; omega
  have x1:¬ nx=ks:=by omega
  have x2:¬ nx=km:=by omega
  have x3:¬ nx=kk:=by omega
  have hmg:∀ {nx':Nat} {objs':List (Nat × Ob)} {zero:D} {ok:Bool} {L:D->Prop},St.look objs' kk=some ⟨0,vZ (fE K)⟩->nU ⟨nx',objs'⟩ 3 zero ok (.yV kk) (.agg [.int .i64 (a:Int),.int .i64 (b:Int),.int .i64 (c:Int)]) L=L (qV ok zero (uJ (rV (a,b,c)) (fE K) 0)):=λ{nx' objs' zero ok L} hlk=> oE hlk (x:=rV (a,b,c)) rfl rfl (bc _)
  rcases bd (a,b,c) K 0 with hno | ⟨r,j,hin,hyes⟩
  case inr=> rw [hyes] at hmg;obtain⟨g1,g2,g3,g4,g5,g6⟩:=hK.ok _ hin;refine⟨nx+1,(nx,rT a b c) :: xX,kn,r,S,K,?_,hS.mono (by omega) λk hk=>by rw [xY,if_neg (by omega)],⟨by omega,.inl rfl,λk h1 _ _ _ _=>by rw [xY,if_neg (by omega)]⟩,⟨⟨[],by simp⟩,hI,hK,g4,g5,g6⟩,by omega,by omega⟩;refine yS func48 Ph λhf=>?_;simp only [simprocAttr,-ZA,↓zU,↓zD,zV,zT,zW,e1,e2,e3,x1,x3,hs,hk,hmg,Option.map_none];exact .same
  rw [hno] at hmg;obtain⟨m1,m2,m3⟩:=wq (uR S a) (uR S b) (uR S c);have hv:=hm;generalize hvv:yv (uR S a) (uR S b) (uR S c)= v at hm m1 m2 m3
  have hvn:v<n:=by
   have c2':2<=a:=by omega
   have:=(hI.mb c2' ha).1;omega
  have hS0:fJ ks km kk kn S K (nx+1) ((nx,rT a b c) :: xX):=hS.mono (by omega) λk hk=>by rw [xY,if_neg (by omega)]
  have va:=kC hS0 ha (by omega);have vb:=kC hS0 hb (by omega);have vc:=kC hS0 hc (by omega);have hmin:=SI (uR S a) (uR S b) (uR S c);rw [hvv] at hmin;have aa:=ZY hS0 ha (by omega) (show v<24 by omega) false;have ab:=ZY hS0 hb (by omega) (show v<24 by omega) false;have ac:=ZY hS0 hc (by omega) (show v<24 by omega) false;obtain⟨a1,a2,a3⟩:=qh (b:=false) hI ha m1 (by omega);obtain⟨b1,b2,b3⟩:=qh (b:=false) hI hb m2 (by omega);obtain⟨d1,d2,d3⟩:=qh (b:=false) hI hc m3 (by omega);obtain⟨nx1,objs1,kn1,r1,S1,K1,call1,St1,F1,I1,L1,M1⟩:=ih hI hK hS0 a1 b1 d1 (show n<=yv (uR S (Zc S a v false)) (uR S (Zc S b v false)) (uR S (Zc S c v false))+ m by have:=ki a2 b2 d2; omega) (by omega) (by omega);obtain⟨T1,rfl⟩:=I1.pre;have hI1:=I1.inv;have ha1:a<(S++T1).length+2:=by rw [γ]; omega
  have hb1:b<(S++T1).length+2:=by rw [γ]; omega
  have hc1:c<(S++T1).length+2:=by rw [γ]; omega
  have la:=rS (T:=T1) ha;have lb:=rS (T:=T1) hb;have lc:=rS (T:=T1) hc;have aa':=ZY St1 ha1 (by omega) (show v<24 by omega) true;have ab':=ZY St1 hb1 (by omega) (show v<24 by omega) true;have ac':=ZY St1 hc1 (by omega) (show v<24 by omega) true;obtain⟨a4,a5,a6⟩:=qh (b:=true) hI1 ha1 (by rw [la]; exact m1) (by omega);obtain⟨b4,b5,b6⟩:=qh (b:=true) hI1 hb1 (by rw [lb]; exact m2) (by omega);obtain⟨d4,d5,d6⟩:=qh (b:=true) hI1 hc1 (by rw [lc]; exact m3) (by omega);obtain⟨nx2,objs2,kn2,r2,S2,K2,call2,St2,F2,I2,L2,M2⟩:=ih hI1 I1.mem St1 a4 b4 d4 (show n<=yv (uR (S++T1) (Zc (S++T1) a v true)) (uR (S++T1) (Zc (S++T1) b v true)) (uR (S++T1) (Zc (S++T1) c v true))+ m by have:=ki a5 b5 d5; omega) (by omega) (by omega);obtain⟨T2,rfl⟩:=I2.pre;have hr1:r1<(S++T1++T2).length+2:=by have:=I1.lt; rw [γ]; omega
  have lr1:v<uR (S++T1++T2) r1:=by rw [rS I1.lt];have:=ki a2 b2 d2;have:=I1.lv; omega
  have lr2:v<uR (S++T1++T2) r2:=by have:=ki a5 b5 d5;have:=I2.lv; omega
  have N:=Y8 I2.inv hvn hr1 I2.lt lr1 lr2;obtain⟨nx3,objs3,kn3,call3,St3,F3⟩:=VO St2 (v:=v) (lo:=r1) (hi:=r2) (by omega);generalize pL (S++T1++T2) v r1 r2=q at N call3 St3;obtain⟨r3,S3⟩:=q;simp only at N call3 St3;obtain⟨T3,rfl,hT3⟩:=N.pre
  have o1:St.look objs1 nx=some (rT a b c):=by rw [F1.xC nx (by omega) (by omega) (by omega) (by omega) (by omega),xY,if_pos rfl]
  have q1:=F1.new;have q2:=F2.new;have q3:=F3.new;have p1:=F1.le;have p2:=F2.le;have p3:=F3.le
  have o2:St.look objs2 nx=some (rT a b c):=by rw [F2.xC nx (by omega) (by omega) (by omega) (by omega) (by omega)]; exact o1
  have o3:St.look objs3 nx=some (rT a b c):=by rw [F3.xC nx (by omega) (by omega) (by omega) (by omega) (by omega)]; exact o2
  obtain⟨⟨s1,s2,s3,s4⟩,⟨t1,t2,t3,t4,t5,t6⟩,hs3,hn3,hm3,hk3⟩:=id St3;obtain⟨K3,eK,lK,pK⟩:=SC (a,b,c) r3 K2
  have hms:∀ {nx':Nat} {objs':List (Nat × Ob)} {x:D} {L:D->St->Prop},St.look objs' kk=some ⟨0,vZ (fE K2)⟩->oZ ⟨nx',objs'⟩ 3 (.yV kk) (.agg [.int .i64 (a:Int),.int .i64 (b:Int),.int .i64 (c:Int)]) x L=L .uO ⟨nx',wO objs' kk ⟨0,vZ (lN (rV (a,b,c)) x (fE K2))⟩⟩:=λ{nx' objs' x L} hlk=> uc hlk (y:=rV (a,b,c)) rfl rfl (bc _)
  refine⟨nx3,wO objs3 kk ⟨0,vZ (fE K3)⟩,kn3,r3,S++T1++T2++T3,K3,?_,?_,?_,?_,?_,?_⟩
  ·refine yS func48 Ph λhf=>?_;simp only [simprocAttr,-ZA,↓zU,↓zD,zV,zT,zW,e1,e2,e3,x1,x3,hs,hk,hmg,Option.map_none];refine .go va ?_;refine xB ?_;refine .go vb ?_;refine xB ?_;refine .go vc ?_;refine yK hmin ?_;refine .go aa ?_;refine xB ?_;refine .go ab ?_;refine xB ?_;refine .go ac ?_;refine xB ?_;refine .go call1 ?_;refine xB ?_;refine .go aa' ?_;refine xB ?_;refine .go ab' ?_;refine xB ?_;refine .go ac' ?_;refine xB ?_;refine .go call2 ?_;refine xB ?_;refine .go call3 ?_;simp only [simprocAttr,-ZA,↓zU,↓zD,zV,zT,zW,hs3,hk3,o3,rT,hms,Option.map_none];rw [<- eK];exact .same
  ·refine⟨⟨s1,s2,s3,s4⟩,⟨t1,t2,t3,t4,t5,t6⟩,?_,?_,?_,?_⟩
   ·rw [xV,if_neg (by omega)]; exact hs3
   ·rw [xV,if_neg (by omega)]; exact hn3
   ·rw [xV,if_neg (by omega)]; exact hm3
   ·rw [xV,if_pos rfl,hk3]; rfl
  ·refine⟨by omega,by omega,λk g1 g2 g3 g4 g5=>?_⟩;rw [xV,if_neg (by omega),F3.xC k (by omega) g2 g3 g4 (by omega),F2.xC k (by omega) g2 g3 g4 (by omega),F1.xC k (by omega) g2 g3 g4 g5,xY,if_neg (by omega)]
  ·have hlt:=N.lt
   have hden:∀ w,den (S++T1++T2++T3) n r3 w=fj (den S n a w) (den S n b w) (den S n c w):=λw=>by
    rw [N.den w]
    by_cases hw:w v=true
    ·rw [if_pos hw,I2.den w,a6 w hw,b6 w hw,d6 w hw,uB hI _ _ _ ha,uB hI _ _ _ hb,uB hI _ _ _ hc]
    ·have hw':w v=false:=by simpa using hw
     rw [if_neg hw,uB hI1 _ _ _ I1.lt,I1.den w,a3 w hw',b3 w hw',d3 w hw']
   refine⟨⟨T1++T2++T3,by simp⟩,N.inv,⟨λp hp=>?_⟩,hlt,by rw [hvv]; exact N.lv,hden⟩
   rcases pK p hp with h | h
   ·exact(I2.mem.app I2.inv T3).ok p h
   ·subst h;have e0:S++T1++T2++T3=S++(T1++T2++T3):=by simp
    have hln:(S++T1++T2++T3).length=S.length+(T1++T2++T3).length:=by rw [e0,γ]
    refine⟨by simp only; omega,by simp only; omega,by simp only; omega,hlt,?_,λw=>?_⟩
    ·simp only;rw [e0,rS ha,rS hb,rS hc,hvv,<- e0]; exact N.lv
    ·simp only;rw [hden w,e0,uB hI _ _ _ ha,uB hI _ _ _ hb,uB hI _ _ _ hc]
  ·rw [γ]; omega
  ·omega
open Rs Bd Fm
namespace Bd
def wN (E S:List yH):Nat->List Nat × List yH
 | 0=>([0,1],S)
 | k+1=>
  let p:=wN E S k
  let q:=pL p.2 (yP E k).1 (p.1.getD (yP E k).2.1 0) (p.1.getD (yP E k).2.2 0)
  (p.1 ++ [q.1],q.2)
structure Pr (n : Nat) (E S : List yH) (k : Nat) (to : List Nat) (S' : List yH) : Prop where
 len:to.length=k+2
 pre:∃ T,S'=S++T/\T.length<=k
 inv:sU n S'
 to:∀ j,j<k+2->to.getD j 0<S'.length+2/\uR E j<=uR S' (to.getD j 0)/\ ∀ w,den S' n (to.getD j 0) w=den E n j w
theorem ja {n:Nat} {E S:List yH} (hE:sU n E) (hS:sU n S):∀ k,k<=E.length->Pr n E S k (wN E S k).1 (wN E S k).2
 | 0,_=>⟨rfl,⟨[],by simp [wN]⟩,hS,λj hj=>by
   have h01:j=0\/j=1:=by omega
   rcases h01 with rfl | rfl
   ·exact⟨by simp [wN],by rw [sL (by omega)]; simp [wN,uR],λw=>by rw [xA (show (wN E S 0).1.getD 0 0<2 by simp [wN]),xA (by omega)]; rfl⟩
   ·exact⟨by simp [wN],by rw [sL (by omega)]; simp [wN,uR],λw=>by rw [xA (show (wN E S 0).1.getD 1 0<2 by simp [wN]),xA (by omega)]; rfl⟩⟩
 | k+1,hk=>by
  have P:=ja hE hS k (by omega);obtain⟨a1,a2,a3,a4,a5,a6⟩:=hE.lo k (by omega);unfold wN;simp only;generalize wN E S k=p at P;obtain⟨to,S1⟩:=p;obtain⟨hl,⟨T,rfl,hT⟩,hI,ht⟩:=P;simp only at hl hI ht ⊢;obtain⟨b1,b2,b3⟩:=ht _ a2;obtain⟨c1,c2,c3⟩:=ht _ a3;have N:=Y8 hI (v:=(yP E k).1) a1 b1 c1 (by omega) (by omega);generalize pL (S++T) (yP E k).1 (to.getD (yP E k).2.1 0) (to.getD (yP E k).2.2 0)= q at N;obtain⟨r,S2⟩:=q;obtain⟨⟨T2,rfl,hT2⟩,hI2,hlt,hlv,hden⟩:=N;simp only at hI2 hlt hlv hden ⊢;refine⟨by simp [hl],⟨T++T2,by simp,by rw [γ]; omega⟩,hI2,λj hj=>?_⟩
  by_cases c:j<k+2
  ·obtain⟨d1,d2,d3⟩:=ht j c;rw [zJ (by omega)];refine⟨by rw [γ]; omega,by rw [rS d1]; exact d2,λw=>by rw [uB hI _ _ _ d1]; exact d3 w⟩
  ·obtain rfl:j=to.length:=by omega
   rw [uP];have hjE:uR E to.length=(yP E k).1:=by rw [rG (by omega),hl,υ]
   refine⟨hlt,by omega,λw=>?_⟩;rw [hden w,sK hE (by omega) (by omega),hjE,hl,υ]
   split
   ·exact c3 w
   ·exact b3 w
theorem YI {E:List yH} {k:Nat} (h:k<E.length):E.take (k+1)= E.take k ++ [yP E k]:=qY (d:=sD) h
theorem YD {x:yH}:∀ {S:List yH} {i:Nat},(∀ k,k<S.length->yP S k≠x)->eC x S i=none
 | [],_,_=>rfl
 | y :: r,i,h=>by unfold eC;rw [if_neg λe=>h 0 (by simp) e.symm];exact YD λk hk=>h (k+1) (by simpa using hk)
theorem om {n:Nat} {E:List yH} (hE:sU n E):∀ k,k<=E.length->wN E [] k=(List.range (k+2),E.take k)
 | 0,_=>rfl
 | k+1,hk=>by
  obtain⟨a1,a2,a3,a4,a5,a6⟩:=hE.lo k (by omega);have hg:∀ j,j<k+2->(List.range (k+2)).getD j 0=j:=λj hj=>by simp [List.getD,hj]
  unfold wN;rw [om hE k (by omega)];simp only;rw [hg _ a2,hg _ a3]
  have hno:eC ((yP E k).1,(yP E k).2.1,(yP E k).2.2) (E.take k) 0=none:=YD λj hj=>by
   rw [κ] at hj
   have:yP (E.take k) j=yP E j:=by unfold yP;rw [List.getD,List.getElem?_take_of_lt (by omega)]; rfl
   rw [this];exact hE.nd j k (by omega) (by omega)
  unfold pL;rw [if_neg a4,hno];simp only;rw [κ,Nat.min_eq_left (by omega),YI (by omega),List.range_succ (n:=k+2)]
def tY (l:List Nat):List (List D):=l.map λ(x:Nat)=>[.int .i64 (x:Int)]
theorem nM (l:List Nat):(tY l).length=l.length:=by simp [tY]
theorem qO (l:List Nat) {i:Nat} (h:i<l.length):(tY l).getD i [] = [.int .i64 ((l.getD i 0:Nat):Int)]:=by simp [tY,List.getD,h]
theorem U8 (l:List Nat):∀ e ∈ tY l,e.all D.one=true:=by intro e he;obtain⟨x,_,rfl⟩:=List.mem_map.1 he;rfl
theorem ov (l:List Nat) (x:Nat):tY l ++ [[.int .i64 (x:Int)]]=tY (l ++ [x]):=by simp [tY]
def xD (n:Nat) (E:List yH) (r:Nat):List D:=[.int .i64 (n:Int),.sl 3 (vJ E),.int .i64 (r:Int)]
def yA (n:Nat) (E:List yH) (r:Nat):D:=.agg (xD n E r)
end Bd
theorem Bd.chain {α:Type} {P:Nat->α->Prop} {R:Nat->α->α->Prop} {a0:α} (h0:P 0 a0):∀ (N:Nat),(∀ i,i<N->∀ a,P i a->∃ b,R i a b/\P (i+1) b)->∃ f:Nat->α,f 0=a0/\(∀ i,i<N->R i (f i) (f (i+1)))/\ ∀ i,i<=N->P i (f i)
 | 0,_=>⟨λ_=>a0,rfl,λi h=>by omega,λi h=>by
   obtain rfl:i=0:=by omega
   exact h0⟩
 | N+1,hs=>by
  obtain⟨f,f0,fr,fp⟩:=chain h0 N λi hi=>hs i (by omega);obtain⟨b,hb,hp⟩:=hs N (by omega) _ (fp N (ν _))
  refine⟨λi=>if i<=N then f i else b,by simp only; rw [if_pos (ο _)]; exact f0,λi hi=>?_,λi hi=>?_⟩
  ·by_cases c:i<N
   ·simp only;rw [if_pos (by omega),if_pos (by omega)]; exact fr i c
   ·obtain rfl:i=N:=by omega
    simp only;rw [if_pos (ν _),if_neg (by omega)]; exact hb
  ·by_cases c:i<=N
   ·simp only;rw [if_pos c]; exact fp i c
   ·obtain rfl:i=N+1:=by omega
    simp only;rw [if_neg c]; exact hp
namespace Bd
structure MP where
 nx:Nat
 xX:List (Nat × Ob)
 kn:Nat
 kt:Nat
structure Qo (n ks km kk kn : Nat) (E S : List yH) (r : Nat) (K : Mem) (nx : Nat) (xX : List (Nat × Ob)) (i : Nat) (a : MP) : Prop where
 WB:fJ ks km kk a.kn (wN E S i).2 K a.nx a.xX
 le:nx+2<=a.nx
 new:a.kn=kn\/nx<=a.kn
 nn:a.kn≠nx
 box:St.look a.xX nx=some ⟨3,[xD n E r]⟩
 to:St.look a.xX a.kt=some ⟨1,tY (wN E S i).1⟩
 kt:nx<a.kt/\a.kt<a.nx/\a.kt≠a.kn
 xC:∀ k,k<nx->k≠ks->k≠km->k≠kk->k≠kn->St.look a.xX k=St.look xX k
def OK (ks:Nat) (E S:List yH) (i:Nat) (a b:MP):Prop:=∃ nx' objs',xU prog 70 [.ref ks 3 0 0,.int .i64 ((yP E i).1:Int),.int .i64 (((wN E S i).1.getD (yP E i).2.1 0:Nat):Int),.int .i64 (((wN E S i).1.getD (yP E i).2.2 0:Nat):Int)] ⟨a.nx+1,(a.nx,rT (yP E i).1 (yP E i).2.1 (yP E i).2.2) :: a.xX⟩ (.int .i64 ((pL (wN E S i).2 (yP E i).1 ((wN E S i).1.getD (yP E i).2.1 0) ((wN E S i).1.getD (yP E i).2.2 0)).1:Int)) ⟨nx',objs'⟩/\
 b.nx=nx'+1/\b.xX=(nx',⟨1,tY (wN E S (i+1)).1⟩) :: yE objs' a.kt/\b.kt=nx'/\St.look objs' a.kt=St.look a.xX a.kt/\a.kt<nx'/\a.nx<nx'/\St.look objs' a.nx=some (rT (yP E i).1 (yP E i).2.1 (yP E i).2.2)
theorem Q6 {n ks km kk kn:Nat} {E S:List yH} {r:Nat} {K:Mem} {nx:Nat} {xX:List (Nat × Ob)} (hlk:ks<nx/\km<nx/\kk<nx/\kn<nx) (hlS:∀ i,i<=E.length->(wN E S i).2.length<=100000) (i:Nat) (hi:i<E.length) (a:MP) (h:Qo n ks km kk kn E S r K nx xX i a):∃ b,OK ks E S i a b/\Qo n ks km kk kn E S r K nx xX (i+1) b:=by
 obtain⟨WB,le,new,nn,box,to,⟨t1,t2,t3⟩,xC⟩:=h
 have s0:fJ ks km kk a.kn (wN E S i).2 K (a.nx+1) ((a.nx,rT (yP E i).1 (yP E i).2.1 (yP E i).2.2) :: a.xX):=WB.mono (by omega) λk hk=>by have:=WB.lt;rw [xY,if_neg (by omega)]
 obtain⟨nx',objs',kn',call,St',F⟩:=VO s0 (v:=(yP E i).1) (lo:=(wN E S i).1.getD (yP E i).2.1 0) (hi:=(wN E S i).1.getD (yP E i).2.2 0) (hlS i (by omega));have q1:=F.le;have q2:=F.new;have hS2:(pL (wN E S i).2 (yP E i).1 ((wN E S i).1.getD (yP E i).2.1 0) ((wN E S i).1.getD (yP E i).2.2 0)).2=(wN E S (i+1)).2:=rfl;rw [hS2] at St';have hlt:=St'.lt
 have kp:∀ k,k<a.nx->k≠ks->k≠km->k≠kk->k≠a.kn->St.look objs' k=St.look a.xX k:=λk g1 g2 g3 g4 g5=>by rw [F.xC k (by omega) g2 g3 g4 g5,xY,if_neg (by omega)]
 refine⟨⟨nx'+1,(nx',⟨1,tY (wN E S (i+1)).1⟩) :: yE objs' a.kt,kn',nx'⟩,⟨nx',objs',call,rfl,rfl,rfl,kp _ t2 (by omega) (by omega) (by omega) t3,by omega,by omega,?_⟩,⟨?_,by simp only; omega,by simp only; omega,by simp only; omega,?_,?_,⟨by simp only; omega,by simp only; omega,by simp only; omega⟩,λk g1 g2 g3 g4 g5=>?_⟩⟩
 ·have:=WB.lt;rw [F.xC _ (by omega) (by omega) (by omega) (by omega) (by omega),xY,if_pos rfl]
 ·refine St'.mono (by simp only; omega) λk hk=>?_;simp only;rw [xY,if_neg (by omega),xK,if_neg (by omega)]
 ·simp only;rw [xY,if_neg (by omega),xK,if_neg (by omega),kp _ (by omega) (by omega) (by omega) (by omega) (by omega)]; exact box
 ·simp only;rw [xY,if_pos rfl]
 ·simp only;rw [xY,if_neg (by omega),xK,if_neg (by omega),kp _ (by omega) g2 g3 g4 (by omega)]; exact xC k g1 g2 g3 g4 g5
end Bd
theorem VL {n ks km kk kn r:Nat} {E S:List yH} {K:Mem} {nx:Nat} {xX:List (Nat × Ob)} (hE:sU n E) (hS:sU n S) (h:fJ ks km kk kn S K nx xX) (hr:r<E.length+2) (hlE:E.length<=1000) (hlS:S.length<=1000) :
  ∃ nx' objs' kn',xU prog 62 [.ref ks 3 0 0,yA n E r] ⟨nx,xX⟩ (.int .i64 (((wN E S E.length).1.getD r 0:Nat):Int)) ⟨nx',objs'⟩/\ fJ ks km kk kn' (wN E S E.length).2 K nx' objs'/\TL ks km kk kn kn' nx nx' xX objs':=by
 have hlt:=h.lt;have zL:=h.ne;have hok:=λk hk=>ja hE hS k hk
 have hlen:∀ i,i<=E.length->(wN E S i).2.length<=100000:=λi hi=>by obtain⟨T,e,hT⟩:=(hok i hi).pre;rw [e,γ]; omega
 have h0:Qo n ks km kk kn E S r K nx xX 0 ⟨nx+1+1,(nx+1,⟨1,tY [0,1]⟩) :: (nx,⟨3,[xD n E r]⟩) :: xX,kn,nx+1⟩:=by
  refine⟨h.mono (by simp only; omega) λk hk=>?_,by simp only; omega,.inl rfl,by simp only; omega,?_,?_,⟨by simp only; omega,by simp only; omega,by simp only; omega⟩,λk g1 _ _ _ _=>?_⟩
  ·simp only;rw [xY,if_neg (by omega),xY,if_neg (by omega)]
  ·simp only;rw [xY,if_neg (by omega),xY,if_pos rfl]
  ·simp only;rw [xY,if_pos rfl]; rfl
  ·simp only;rw [xY,if_neg (by omega),xY,if_neg (by omega)]
 obtain⟨f,f0,fr,fp⟩:=chain h0 E.length (Q6 hlt hlen);have fl:=fp E.length (ν _);refine⟨(f E.length).nx,(f E.length).xX,(f E.length).kn,?_,fl.WB,⟨by have:=fl.le; omega,fl.new,fl.xC⟩⟩;have x0:¬ nx+1=nx:=by omega
 have tol:∀ i,i<=E.length->(tY (wN E S i).1).length=i+2:=λi hi=>by rw [nM]; exact(hok i hi).len
 refine yS func62 Lp λhf=>?_;simp only [simprocAttr,-ZA,↓zU,↓zD,zV,zT,zW,yA,xD,vP,x0];refine⟨U8 [0,1],?_⟩
 refine yM (λi:Nat=>[(12,.int .i64 i),(11,.int .i64 E.length),(10,.sl 3 (vJ E)),(5,.wZ (f i).kt 1 (i+2)),(3,.ref nx 3 0 0),(0,.ref ks 3 0 0)]) (λi=>⟨(f i).nx,(f i).xX⟩) (λi=>i<=E.length) (λi=>E.length-i) 0 (ο _) ?_ ?_
 ·rw [f0];exact lQ
 intro i hi;refine wH mixed ?_;by_cases hil:i<E.length
 case neg=>
  have hd:¬ ((i:Int)<(E.length:Int)):=by omega
  obtain rfl:i=E.length:=by omega
  have hb:=fl.box;have ht:=fl.to;have hg:=qO (wN E S E.length).1 (i:=r) (by have:=(hok _ (ν _)).len; omega);simp only [simprocAttr,-ZA,↓zU,↓zD,zV,zT,zW,hd,hb,xD,ht,tol,hg]
  (repeat refine sd ?_)
  exact .same
 have hd:((i:Int)<(E.length:Int)):=by omega
 obtain⟨WB,le,new,nn,box,to,⟨t1,t2,t3⟩,xC⟩:=fp i hi;obtain⟨nx',objs',call,e1,e2,e3,e4,e5,e6,e7⟩:=fr i hil;obtain⟨a1,a2,a3,_⟩:=hE.lo i hil;have g0:=pI E hil;have gl:=qO (wN E S i).1 (i:=(yP E i).2.1) (by have:=(hok i hi).len; omega);have gh:=qO (wN E S i).1 (i:=(yP E i).2.2) (by have:=(hok i hi).len; omega);have y1:¬ (f i).nx=(f i).kt:=by omega
 simp only [simprocAttr,-ZA,↓zU,↓zD,zV,zT,zW,hd,vP,g0,y1,to,tol i hi,gl,gh]
 (repeat refine sd ?_)
 refine .go call ?_;have e7':St.look objs' (f i).nx=some ⟨3,[[.int .i64 ((yP E i).1:Int),.int .i64 ((yP E i).2.1:Int),.int .i64 ((yP E i).2.2:Int)]]⟩:=e7;simp only [simprocAttr,-ZA,↓zU,↓zD,zV,zT,zW,e4.trans to,e7',tol i hi,gl,gh]
 (repeat refine sd ?_)
 refine⟨i+1,by omega,?_,by omega⟩;have e8:(wN E S (i+1)).1=(wN E S i).1 ++ [(pL (wN E S i).2 (yP E i).1 ((wN E S i).1.getD (yP E i).2.1 0) ((wN E S i).1.getD (yP E i).2.2 0)).1]:=rfl;rw [e1,e2,e3,e8,<- ov,List.take_of_length_le (Nat.le_of_eq (tol i hi)),show i+1+2=i+2+1 by omega];exact jG
open Rs Bd Fm
section
variable [vA] {P : Program} {M0 : Nat -> Prop} {w : World} {ι : Nat -> Nat} {nx j : Nat} {xX : List (Nat × Ob)}
theorem R.W7 {M:Nat->Prop} {v:Value} {d:D} (h:R M w ι nx v d):R M w ι (nx+j) v d:=R.xC (λ_ _ _=>rfl) (λ_ _ h=>h) (λ_ cur _ h=>⟨cur,h,rfl⟩) (λ_ _=>rfl) (ξ _ _) h
theorem zI.W7 (h:zI M0 w ⟨nx,xX⟩ ι):zI M0 w ⟨nx+j,xX⟩ ι:=
 ⟨h.oS,λk o hk=>by obtain⟨a,b⟩:=h.holds k o hk;exact⟨π a (ξ _ _),b.xC rfl rfl (λ_ _ _=>rfl) (λ_ _ h=>h) (λ_ cur _ h=>⟨cur,h,rfl⟩) (λ_ _=>rfl) (ξ _ _)⟩,h.inj,h.notM,h.sR⟩
theorem yJ.W7 {C:Cx} {f:Fr}:yJ C f ⟨nx,xX⟩ f ⟨nx+j,xX⟩:=by rintro E a w ⟨ι,G⟩;exact⟨ι,G.size,G.defers,Nat.le_trans G.nx (ξ _ _),G.kept,G.oC.W7,G.oS,G.rQ,G.stay,λt=>(G.fr t).W7⟩
theorem xU.W7 {g:FuncId} {args:List D} {σ:St} {d:D} (h:xU P g args σ d ⟨nx,xX⟩):xU P g args σ d ⟨nx+j,xX⟩:=
 ⟨h.ord,λM0 w ι vals hS hl hv=>(h.run M0 w ι vals hS hl hv).mono λe w' hh=>by obtain⟨v,ι',h1,h2,h3,h4,h5,h6,h7⟩:=hh;exact⟨v,ι',h1,h2,h3.W7,Nat.le_trans h4 (ξ _ _),h5,h6,h7.W7⟩⟩
end
namespace Bd
def yi (nx:Nat) (xX:List (Nat × Ob)):List (Nat × Ob):=(nx+1+1,⟨3,[[.xI,.yV nx,.yV (nx+1)]]⟩) :: (nx+1,⟨0,[]⟩) :: (nx,⟨0,[]⟩) :: xX
end Bd
theorem ud {nx:Nat} {xX:List (Nat × Ob)}:xU prog 60 [] ⟨nx,xX⟩ (.ref (nx+1+1) 3 0 0) ⟨nx+3+1,yi nx xX⟩:=by refine xU.W7 ?_;refine yS func60 Lm λhf=>?_;refine xB ?_;exact .same
theorem Y6 {nx:Nat} {xX:List (Nat × Ob)} (hno:∀ k o,St.look xX k=some o->k<nx):fJ (nx+1+1) nx (nx+1) (nx+3) [] [] (nx+3+1) (yi nx xX):=by
 refine⟨⟨by omega,by omega,by omega,by omega⟩,⟨by omega,by omega,by omega,by omega,by omega,by omega⟩,?_,?_,?_,?_⟩
 ·unfold yi;rw [xY,if_pos rfl]; rfl
 ·unfold yi;rw [xY,if_neg (by omega),xY,if_neg (by omega),xY,if_neg (by omega)]
  cases h:St.look xX (nx+3) with
  | none=>rfl
  | some o=>have:=hno _ _ h; omega
 ·unfold yi;rw [xY,if_neg (by omega),xY,if_neg (by omega),xY,if_pos rfl]; rfl
 ·unfold yi;rw [xY,if_neg (by omega),xY,if_pos rfl]; rfl
end Go.Pd

/- Part B1. -/
namespace Go.Pd
open Go Go.Proofs
namespace Rs
def wL (n x:Int):Bool:=decide (x≠0)&& decide (-n<=x)&& decide (x<=n)
theorem wB {n x:Int}:wL n x=true ↔ x≠0 /\ -n<=x/\x<=n:=by simp [wL,and_assoc]
def wU (x:Int):Int:=if x<0 then -x-1 else x-1
theorem vM {n x:Int} (h:wL n x=true):0<=wU x/\wU x<n:=by rw [wB] at h; unfold wU; split <;> omega
def wD (n:Int):Int->List Int->Int
 | _,[]=>0
 | last,x :: c=>if wL n x=false then 2 else if wU x<=last then 9 else wD n (wU x) c
def mD (n:Int):List (List Int)->Int
 | []=>0
 | c :: l=>if wD n (-1) c≠0 then wD n (-1) c else mD n l
def vY (n:Int) (l:List (List Int)):Int:=if n<0\/12<n then 2 else if 64<l.length then 8 else mD n l
theorem gV {n:Int}:∀ {l:List (List Int)},mD n l=0 ↔ ∀ c ∈ l,wD n (-1) c=0
 | []=>by simp [mD]
 | c :: l=>by
  unfold mD
  by_cases h:wD n (-1) c=0
  ·rw [if_neg (by simpa using h),gV]; simp [h]
  ·rw [if_pos h]; simp [h]
theorem qZ {n:Int} {l:List (List Int)} (h:vY n l=0):0<=n/\n<=12/\l.length<=64/\∀ c ∈ l,wD n (-1) c=0:=by
 unfold vY at h
 by_cases h1:n<0\/12<n
 ·rw [if_pos h1] at h; cases h
 ·rw [if_neg h1] at h
  by_cases h2:64<l.length
  ·rw [if_pos h2] at h; cases h
  ·rw [if_neg h2,gV] at h;exact⟨by omega,by omega,by omega,h⟩
theorem wY {n:Int}:∀ {c:List Int} {last:Int},wD n last c=0 ↔ (∀ x ∈ c,wL n x=true/\last<wU x)/\ c.Pairwise λa b=>wU a<wU b
 | [],last=>by simp [wD]
 | x :: c,last=>by
  unfold wD
  by_cases h1:wL n x=false
  ·rw [if_pos h1]; simp [h1]
  ·rw [if_neg h1];have h1':wL n x=true:=by simpa using h1
   by_cases h2:wU x<=last
   ·rw [if_pos h2];simp only [List.mem_cons,forall_eq_or_imp]
    constructor
    ·intro h; cases h
    ·rintro ⟨⟨⟨_,h⟩,_⟩,_⟩; omega
   ·rw [if_neg h2,wY,List.pairwise_cons];simp only [List.mem_cons,forall_eq_or_imp]
    constructor
    ·rintro ⟨h3,h4⟩;exact⟨⟨⟨h1',by omega⟩,λy hy=>⟨(h3 y hy).1,by have:=(h3 y hy).2; omega⟩⟩,λy hy=>(h3 y hy).2,h4⟩
    ·rintro ⟨⟨_,h3⟩,h4,h5⟩;exact⟨λy hy=>⟨(h3 y hy).1,h4 y hy⟩,h5⟩
theorem eP {n m x:Int} (h:n<=m) (hx:wL n x=true):wL m x=true:=by rw [wB] at *; omega
theorem Uo {x:Int} (hx:x≠0):wU (-x)= wU x:=by unfold wU; split <;> split <;> omega
end Rs
end Go.Pd

/- Part B2. -/
namespace Go.Pd
open Go Go.Proofs
open BitVec renaming isValue -> ZA
open Rs
theorem Vz {x:Int} (h:-9223372036854775807<=x/\x<=9223372036854775807):IntKind.i64.wrap (0-x)= -x:=by rw [wrap_i64 (by omega)]; omega
theorem fe {n:Int} (x:Int) (hn:0<=n/\n<=12):zX prog 55 [.int .i64 x,.int .i64 n] (.yD [.int .i64 (if wL n x=true then wU x else 0),.bool (wL n x)]):=by
 refine yS func55 Li λhf=>?_;have en:IntKind.i64.wrap (0-n)= -n:=Vz (by omega)
 by_cases h0:0<x
 ·by_cases h1:x<=n
  ·have e:wL n x=true:=wB.2 ⟨by omega,by omega,h1⟩;have ev:wU x=x-1:=by unfold wU; rw [if_neg (by omega)]
   simp only [simprocAttr,-ZA,↓zU,↓zD,zV,zT,zW,h0,h1,show IntKind.i64.wrap (x-1)= x-1 from wrap_i64 (by omega)];rw [e,if_pos rfl,ev];exact .same
  ·have e:wL n x=false:=by rw [<- Ae,wB]; omega
   have h2:¬ x<0:=by omega
   refine zl h0 h1 h2 ?_;rw [e,if_neg (by simp)];exact .same
 ·by_cases h2:x<0
  ·by_cases h3:-n<=x
   ·have e:wL n x=true:=wB.2 ⟨by omega,h3,by omega⟩;have ev:wU x = -x-1:=by unfold wU; rw [if_pos h2]
    have ex:IntKind.i64.wrap (0-x)= -x:=Vz (by omega);simp only [simprocAttr,-ZA,↓zU,↓zD,zV,zT,zW,h0,h2,en,h3,ex,show IntKind.i64.wrap (-x-1)= -x-1 from wrap_i64 (by omega)];rw [e,if_pos rfl,ev];exact .same
   ·have e:wL n x=false:=by rw [<- Ae,wB]; omega
    refine se h0 h2 en h3 ?_;rw [e,if_neg (by simp)];exact .same
  ·have e:wL n x=false:=by rw [<- Ae,wB]; omega
   refine sC h0 h2 ?_;rw [e,if_neg (by simp)];exact .same
theorem vi {n:Int} (c:List Int) (hn:0<=n/\n<=12):zX prog 54 [.int .i64 n,.sl 1 (rows .i64 c)] (.int .i64 (wD n (-1) c)):=by
 refine yS func54 Lh λhf=>?_;simp only [D.pJ,D.fact,wS] at hf;have hlen:=hf.2.1.1;refine xB ?_
 refine yM (λp:Nat × Int=>[(12,.int .i64 p.1),(11,.int .i64 c.length),(10,.sl 1 (rows .i64 c)),(5,.int .i64 p.2),(0,.int .i64 n)]) (λ_=>⟨0,[]⟩) (λp=>p.1<=c.length/\wD n (-1) c=wD n p.2 (c.drop p.1)) (λp=>c.length-p.1) (0,-1) ⟨ο _,rfl⟩ ?_ ?_
 ·exact lQ
 rintro ⟨k,last⟩ ⟨hk,hi⟩;simp only at hk hi;refine wH mixed ?_
 by_cases h:k<c.length
 ·have hd:((k:Int)<(c.length:Int)):=by omega
  rw [drop_cons (d:=0) h,wD] at hi;simp only [simprocAttr,-ZA,↓zU,↓zD,zV,zT,zW,hd,yL _ _ h]
  (repeat refine sd ?_)
  refine .go (xU.yU (fe (c.getD k 0) hn) rfl) ?_
  cases h1:wL n (c.getD k 0)
  ·rw [h1,if_pos rfl] at hi;refine xB ?_;exact .drop (by simp) (by simp only [vw,hi])
  ·rw [h1,if_neg (by simp)] at hi;rw [if_pos rfl]
   by_cases h2:wU (c.getD k 0)<=last
   ·rw [if_pos h2] at hi;refine yK h2 ?_;exact .drop (by simp) (by simp only [vw,hi])
   ·rw [if_neg h2] at hi;refine yK h2 ?_;refine⟨(k+1,wU (c.getD k 0)),⟨by simp only; omega,hi⟩,?_,by simp only; omega⟩;exact jG
 ·have hd:¬ ((k:Int)<(c.length:Int)):=by omega
  rw [δ (by omega),wD] at hi;refine yK hd ?_;exact .drop (by simp) (by simp only [vw,hi])
theorem ir (n:Int) (l:List (List Int)):zX prog 31 [.int .i64 n,.sl 1 (rl l)] (.int .i64 (vY n l)):=by
 refine yS func31 LL λhf=>?_;simp only [D.pJ,D.fact,tI] at hf;have hlen:=hf.2.1.1
 by_cases h1:n<0
 ·refine yK h1 ?_;exact .drop (by simp) (by simp [vw,vY,h1])
 by_cases h2:12<n
 ·refine sC h1 h2 ?_;exact .drop (by simp) (by simp [vw,vY,h2])
 by_cases h3:64<l.length
 ·have h3':(64:Int)<(l.length:Int):=by omega
  refine se h1 h2 tI h3' ?_;exact .drop (by simp) (by simp only [vw,vY,if_neg (show ¬ (n<0\/12<n) by omega),if_pos h3])
 have h3':¬ (64:Int)<(l.length:Int):=by omega
 have ec:vY n l=mD n l:=by rw [vY,if_neg (by omega),if_neg h3]
 rw [ec];refine se h1 h2 tI h3' ?_
 refine yM (λk:Nat=>[(19,.int .i64 k),(18,.int .i64 l.length),(17,.sl 1 (rl l)),(0,.int .i64 n)]) (λ_=>⟨0,[]⟩) (λk=>k<=l.length/\mD n l=mD n (l.drop k)) (λk=>l.length-k) 0 ⟨ο _,rfl⟩ ?_ ?_
 ·exact lQ
 intro k ⟨hk,hi⟩;refine wH mixed ?_
 by_cases h:k<l.length
 ·have hd:((k:Int)<(l.length:Int)):=by omega
  rw [drop_cons (d:=[]) h,mD] at hi;simp only [simprocAttr,-ZA,↓zU,↓zD,zV,zT,zW,hd,tI,kl _ h]
  (repeat refine sd ?_)
  refine .go (xU.yU (vi (l.getD k []) (by omega)) (by simp [D.xT,D.xO])) ?_
  by_cases h4:wD n (-1) (l.getD k [])= 0
  ·have h4':(wD n (-1) (l.getD k []) != 0)= false:=by simpa using h4
   rw [if_neg (by simpa using h4)] at hi;refine yK h4' ?_;refine⟨k+1,⟨by omega,hi⟩,?_,by omega⟩;exact jG
  ·have h4':(wD n (-1) (l.getD k []) != 0)= true:=by simpa using h4
   rw [if_pos h4] at hi;refine yK h4' ?_;exact .drop (by simp) (by simp only [vw,hi])
 ·have hd:¬ ((k:Int)<(l.length:Int)):=by omega
  rw [δ (by omega),mD] at hi;refine yK hd ?_;exact .drop (by simp) (by simp only [vw,hi])
open Rs
open Rs
theorem Zt (a b:List Int):zX prog 33 [.sl 1 (rows .i64 a),.sl 1 (rows .i64 b)] (.bool (decide (a=b))):=by
 refine yS func33 LN λhf=>?_;simp only [D.pJ,D.fact,wS] at hf;have hlen:=hf.1.1;by_cases h1:a.length=b.length
 case neg=>
  have h1':((a.length:Int) != (b.length:Int))= true:=by simp; omega
  refine yK h1' ?_;exact .drop (by simp) (by simp only [vw,D.bool.injEq]; symm; apply decide_eq_false; rintro rfl; exact h1 rfl)
 have h1':((a.length:Int) != (b.length:Int))= false:=by simp; omega
 refine yK h1' ?_
 refine yM (λk:Nat=>[(13,.int .i64 k),(12,.int .i64 a.length),(1,.sl 1 (rows .i64 b)),(0,.sl 1 (rows .i64 a))]) (λ_=>⟨0,[]⟩) (λk=>k<=a.length/\∀ i,i<k->a.getD i 0=b.getD i 0) (λk=>a.length-k) 0 ⟨ο _,λi hi=>by omega⟩ ?_ ?_
 ·exact lQ
 intro k ⟨hk,hi⟩;refine wH mixed ?_
 by_cases h:k<a.length
 ·have hd:((k:Int)<(a.length:Int)):=by omega
  by_cases hb:a.getD k 0=b.getD k 0
  ·have hb1:(a.getD k 0 != b.getD k 0)= false:=by simp only [hb,bne_self_eq_false]
   simp only [simprocAttr,-ZA,↓zU,↓zD,zV,zT,zW,hd,yL _ _ h,yL .i64 b (show k<b.length by omega),hb1]
   (repeat refine sd ?_)
   refine⟨k+1,⟨by omega,λi hi2=>?_⟩,?_,by omega⟩
   ·by_cases ei:i=k
    ·rw [ei,hb]
    ·exact hi i (by omega)
   exact jG
  ·have hb1:(a.getD k 0 != b.getD k 0)= true:=bne_iff_ne.2 hb;simp only [simprocAttr,-ZA,↓zU,↓zD,zV,zT,zW,hd,yL _ _ h,yL .i64 b (show k<b.length by omega),hb1]
   (repeat refine sd ?_)
   exact .drop (by simp) (by simp only [vw,D.bool.injEq]; symm; apply decide_eq_false; rintro rfl; exact hb rfl)
 ·have hd:¬ ((k:Int)<(a.length:Int)):=by omega
  have hk':k=a.length:=by omega
  subst hk';refine yK hd ?_;refine .drop (by simp) ?_;simp only [vw,D.bool.injEq]; symm; apply decide_eq_true;refine μ h1 λi h2 h3=>?_;have:=hi i h2;simpa [List.getD,h2,h3] using this
def TO (x:Int):List Int->Int->Int
 | [],_=>-1
 | y :: r,i=>if x=y then i else TO x r (i+1)
theorem Y0 {x:Int}:∀ {c:List Int} {i:Int},0<=i->(0<=TO x c i ↔ x ∈ c)
 | [],i,h=>by simp [TO]
 | y :: r,i,h=>by
  unfold TO
  by_cases e:x=y
  ·rw [if_pos e]; simp [e,h]
  ·rw [if_neg e,Y0 (by omega)]; simp [e]
theorem S7 (c:List Int) (x:Int):zX prog 73 [.sl 1 (rows .i64 c),.int .i64 x] (.int .i64 (TO x c 0)):=by
 refine yS func73 Lv λhf=>?_;simp only [D.pJ,D.fact,wS] at hf;have hlen:=hf.1.1;refine xB ?_
 refine yM (λk:Nat=>[(8,.int .i64 k),(7,.int .i64 c.length),(1,.int .i64 x),(0,.sl 1 (rows .i64 c))]) (λ_=>⟨0,[]⟩) (λk=>k<=c.length/\TO x c 0=TO x (c.drop k) k) (λk=>c.length-k) 0 ⟨ο _,rfl⟩ ?_ ?_
 ·exact lQ
 intro k ⟨hk,hi⟩;refine wH mixed ?_
 by_cases h:k<c.length
 ·have hd:((k:Int)<(c.length:Int)):=by omega
  rw [drop_cons (d:=0) h,TO] at hi
  by_cases hx:x=c.getD k 0
  ·have hx1:(x==c.getD k 0)= true:=by simpa using hx
   rw [if_pos hx] at hi;simp only [simprocAttr,-ZA,↓zU,↓zD,zV,zT,zW,hd,yL _ _ h,hx1]
   (repeat refine sd ?_)
   exact .drop (by simp) (by simp only [vw,hi])
  ·have hx1:(x==c.getD k 0)= false:=by simpa using hx
   rw [if_neg hx] at hi;simp only [simprocAttr,-ZA,↓zU,↓zD,zV,zT,zW,hd,yL _ _ h,hx1]
   (repeat refine sd ?_)
   refine⟨k+1,⟨by omega,hi⟩,?_,by omega⟩;exact jG
 ·have hd:¬ ((k:Int)<(c.length:Int)):=by omega
  rw [δ (by omega),TO] at hi;refine yK hd ?_;exact .drop (by simp) (by simp only [vw,hi])
theorem pQ (c:List Int) (x:Int):zX prog 57 [.sl 1 (rows .i64 c),.int .i64 x] (.bool (decide (x ∈ c))):=by
 refine yS func57 Lj λhf=>?_;refine xB ?_;refine .go (cr (S7 c x)) ?_;have h:=Y0 (x:=x) (c:=c) (i:=0) (Int.le_refl 0)
 by_cases hx:x ∈ c
 ·have h1:=h.2 hx;refine yK h1 ?_;exact .drop (by simp) (by simp [vw,hx])
 ·have h1:¬ 0<=TO x c 0:=λy=>hx (h.1 y);refine yK h1 ?_;exact .drop (by simp) (by simp [vw,hx])
theorem nf {c:List Int} (zL:c ≠ []) (hl:c.length<=1000):xU prog 72 [.sl 1 (rows .i64 c)] kT (.wZ 0 1 c.length) ⟨1,[(0,⟨1,rows .i64 c⟩)]⟩:=by
 match c,zL with
 | x :: l,_=>
  refine yS func72 OB λhf=>?_;have hl':l.length<=999:=by simp at hl; omega
  refine xB ?_;refine⟨by simp,pn .i64 (x :: l),by omega,by omega,bV.name (n:=0) (by simp) (sX .i64 (x :: l)) (by simp [vw])⟩
theorem nc : zX prog 72 [.sl 1 []] (.sl 1 []):=by
 refine xU.QN ?_ ?_
 ·refine yS func72 OB λhf=>?_;refine xB ?_;exact .dv
 ·refine yS func72 OB λhf=>?_;refine j0 ?_;exact .drop (by simp) (br (by simp) (by intro _ h; cases h) rfl)
theorem Rr {c:List Int} (hl:c.length<=1000):zX prog 72 [.sl 1 (rows .i64 c)] (.sl 1 (rows .i64 c)):=by
 by_cases h:c = []
 ·subst h; exact nc
 ·exact(nf h hl).ret (.drop (by simp [kT]) (br (by simp) (sX _ _) (by rw [wS])))
end Go.Pd

/- Part B5. -/
namespace Go.Pd
open Go Go.Proofs
namespace Rs
def oO (x:Int):Int:=2*wU x+if 0<x then 1 else 0
theorem vd {x y:Int} (hx:x≠0) (hy:y≠0) (h:oO x=oO y):x=y:=by unfold oO wU at h;split at h <;> split at h <;> split at h <;> split at h <;> omega
def Qx (x y:Int):Int:=if wU x≠wU y then wU x-wU y else x-y
theorem mP {x y:Int} (hx:x≠0) (hy:y≠0):Qx x y<0 ↔ oO x<oO y:=by unfold Qx oO wU;split <;> split <;> split <;> split <;> split <;> omega
def dC (l:List Int):Prop:=l.Pairwise λa b=>oO a<oO b
theorem Xc {a b:List Int} (ha:dC a) (hb:dC b) (h:∀ x,x ∈ a ↔ x ∈ b):a=b:=by
 have na:a.Nodup:=ha.imp λh e=>by rw [e] at h; omega
 have nb:b.Nodup:=hb.imp λh e=>by rw [e] at h; omega
 have hp:a.Perm b:=(List.perm_ext_iff_of_nodup na nb).2 h;exact List.Perm.eq_of_pairwise (le:=λx y=>oO x<oO y) (λx y _ _ h1 h2=>by omega) ha hb hp
def qQ (c:List Int) (v:Nat):List Int:=(if -(v:Int)-1 ∈ c then [-(v:Int)-1] else [])++ (if (v:Int)+ 1 ∈ c then [(v:Int)+ 1] else [])
def vV (c:List Int):Nat->List Int
 | 0=>[]
 | k+1=>vV c k++qQ c k
def canon (c:List Int):List Int:=vV c 12
theorem yz {c:List Int} {v:Nat} {x:Int}:x ∈ qQ c v ↔ x ∈ c/\(x = -(v:Int)-1\/x=(v:Int)+ 1):=by
 unfold qQ
 by_cases h1:-(v:Int)-1 ∈ c <;> by_cases h2:(v:Int)+ 1 ∈ c <;> simp only [h1,h2,if_true,if_false,η,ζ,θ,or_false,false_or]
 ·exact⟨λh=>h.elim (λe=>⟨e ▸ h1,.inl e⟩) (λe=>⟨e ▸ h2,.inr e⟩),λh=>h.2⟩
 ·exact⟨λe=>⟨e ▸ h1,.inl e⟩,λh=>h.2.elim id λe=>absurd (e ▸ h.1) h2⟩
 ·exact⟨λe=>⟨e ▸ h2,.inr e⟩,λh=>h.2.elim (λe=>absurd (e ▸ h.1) h1) id⟩
 ·exact⟨False.elim,λh=>h.2.elim (λe=>h1 (e ▸ h.1)) (λe=>h2 (e ▸ h.1))⟩
theorem cw {x:Int} {v:Nat}:(x = -(v:Int)-1\/x=(v:Int)+ 1) ↔ x≠0/\wU x=v:=by unfold wU; split <;> omega
theorem tX {c:List Int} {x:Int}:∀ {k:Nat},x ∈ vV c k ↔ x ∈ c/\x≠0/\wU x<k
 | 0=>by simp only [vV,θ,false_iff];rintro ⟨_,h1,h2⟩;unfold wU at h2; split at h2 <;> omega
 | k+1=>by
  rw [vV,η,tX,yz,cw]
  constructor
  ·rintro (⟨h1,h2,h3⟩ | ⟨h1,h2,h3⟩)
   ·exact⟨h1,h2,by omega⟩
   ·exact⟨h1,h2,by omega⟩
  ·rintro ⟨h1,h2,h3⟩
   by_cases e:wU x=k
   ·exact .inr ⟨h1,h2,e⟩
   ·exact .inl ⟨h1,h2,by omega⟩
theorem gS (c:List Int):∀ k,dC (vV c k)
 | 0=>List.Pairwise.nil
 | k+1=>by
  unfold dC;rw [vV,ε]
  refine⟨gS c k,?_,λx hx y hy=>?_⟩
  ·unfold qQ;rw [ε];refine⟨by split <;> simp,by split <;> simp,λx hx y hy=>?_⟩;have hx:x = -(k:Int)-1:=by split at hx <;> simp at hx; exact hx
   have hy:y=(k:Int)+ 1:=by split at hy <;> simp at hy; exact hy
   subst hx; subst hy;unfold oO wU;split <;> split <;> split <;> split <;> omega
  ·obtain⟨_,h1,h2⟩:=tX.1 hx;obtain⟨_,h3⟩:=yz.1 hy;obtain⟨h4,h5⟩:=cw.1 h3;unfold oO;split <;> split <;> omega
theorem yy (c:List Int):∀ k,(vV c k).length<=2*k
 | 0=>ν _
 | k+1=>by
  rw [vV,γ];have:=yy c k;have:(qQ c k).length<=2:=by unfold qQ; rw [γ]; split <;> split <;> simp
  omega
def dS (c:List Int) (v:Nat):Bool:=decide ((v:Int)+ 1 ∈ c)&& decide (-(v:Int)-1 ∈ c)
def qE (c:List Int) (k:Nat):Bool:=(List.range k).any (dS c)
theorem o6 (c:List Int) (k:Nat):qE c (k+1)= (qE c k || dS c k):=by unfold qE; rw [List.range_succ,List.any_append]; simp
def wF (c:List Int):List Int × Bool:=if qE c 12=true then([],true) else(canon c,false)
def zc (c:List Int):List Int × Bool × Int:=if 64<c.length then([],false,8) else if c.all (wL 12)= false then([],false,2) else((wF c).1,(wF c).2,0)
def nB (l:List Int):Nat->List Int
 | 0=>[]
 | k+1=>if 0<k/\l.getD k 0=l.getD (k-1) 0 then nB l k else nB l k ++ [l.getD k 0]
def vN (l:List Int):List Int:=nB l l.length
theorem cH {l:List Int}:∀ {k:Nat},k<=l.length->(∀ i,0<i->i<k->l.getD i 0≠l.getD (i-1) 0)->nB l k=l.take k
 | 0,_,_=>by simp [nB]
 | k+1,h,hn=>by rw [nB,if_neg (λc=>hn k c.1 (by omega) c.2),cH (by omega) (λi h1 h2=>hn i h1 (by omega)),<- qY (by omega)]
theorem Td (l:List Int) (k:Nat):(nB l k).length<=(nB l (k+1)).length:=by
 rw [nB]; split
 ·exact ν _
 ·rw [γ]; omega
theorem Zp (l:List Int):∀ k,0<(nB l (k+1)).length
 | 0=>by rw [nB,if_neg (by omega),γ]; simp
 | k+1=>π (Zp l k) (Td l (k+1))
theorem zt {l:List Int}:∀ {k:Nat} {x:Int},x ∈ nB l k ↔ ∃ i,i<k/\l.getD i 0=x
 | 0,x=>by simp [nB]
 | k+1,x=>by
  rw [nB]
  by_cases h:0<k/\l.getD k 0=l.getD (k-1) 0
  ·rw [if_pos h,zt];refine⟨λ⟨i,hi,e⟩=>⟨i,by omega,e⟩,λ⟨i,hi,e⟩=>?_⟩
   by_cases ei:i=k
   ·exact⟨k-1,by omega,by rw [<- h.2,<- ei]; exact e⟩
   ·exact⟨i,by omega,e⟩
  ·rw [if_neg h,η,zt,ζ];refine⟨λc=>c.elim (λ⟨i,hi,e⟩=>⟨i,by omega,e⟩) (λe=>⟨k,by omega,e.symm⟩),λ⟨i,hi,e⟩=>?_⟩
   by_cases ei:i=k
   ·exact .inr (by rw [<- e,ei])
   ·exact .inl ⟨i,by omega,e⟩
theorem Yr {l:List Int} {x:Int}:x ∈ vN l ↔ x ∈ l:=by
 unfold vN;rw [zt]
 constructor
 ·rintro ⟨i,hi,rfl⟩; exact wR hi
 ·intro h;obtain⟨i,hi,e⟩:=List.mem_iff_getElem.1 h;exact⟨i,hi,by simp [List.getD,hi,e]⟩
def jl (l:List Int):Prop:=l.Pairwise λa b=>oO a<=oO b
theorem eL {l:List Int} (h:jl l) (hz:∀ x ∈ l,x≠0):∀ {k:Nat},k<=l.length->dC (nB l k)
 | 0,_=>List.Pairwise.nil
 | k + 1,hk=>by
  rw [nB]
  by_cases c:0<k/\l.getD k 0=l.getD (k-1) 0
  ·rw [if_pos c]; exact eL h hz (by omega)
  ·rw [if_neg c];refine ε.2 ⟨eL h hz (by omega),List.pairwise_singleton _ _,λx hx y hy=>?_⟩;rw [ζ] at hy;subst hy;obtain⟨i,hi,rfl⟩:=zt.1 hx
   have le:∀ a b,a<b->b<l.length->oO (l.getD a 0)<=oO (l.getD b 0):=λa b hab hb=>by have:=List.pairwise_iff_getElem.1 h a b (by omega) hb hab;simpa [List.getD,hb,show a<l.length by omega] using this
   have h1:=le i k hi (by omega)
   by_cases e:oO (l.getD i 0)= oO (l.getD k 0)
   ·exfalso;have eq:=vd (hz _ (wR (show i<l.length by omega))) (hz _ (wR (show k<l.length by omega))) e
    by_cases e2:i=k-1
    ·exact c ⟨by omega,by rw [<- eq,e2]⟩
    ·have h2:=le i (k-1) (by omega) (by omega);have h3:=le (k-1) k (by omega) (by omega);exact c ⟨by omega,vd (hz _ (wR (show k<l.length by omega))) (hz _ (wR (show k-1<l.length by omega))) (by omega)⟩
   ·omega
def jM (l:List Int):List Int:=l.mergeSort λa b=>decide (oO a<=oO b)
theorem nJ (l:List Int):(jM l).Perm l:=List.mergeSort_perm l _
theorem cF (l:List Int):jl (jM l):=by have:=List.pairwise_mergeSort (le:=λa b:Int=>decide (oO a<=oO b)) (λa b c h1 h2=>by simp at h1 h2 ⊢; omega) (λa b=>by simp; omega) l;exact this.imp λh=>by simpa using h
theorem Uk {l m:List Int} (hz:∀ x ∈ l,x≠0) (hp:m.Perm l) (hs:jl m):m=jM l:= List.Perm.eq_of_pairwise (le:=λx y=>oO x<=oO y) (λx y hx hy h1 h2=>vd (hz _ (hp.mem_iff.1 hx)) (hz _ ((nJ l).mem_iff.1 hy)) (by omega)) hs (cF l) (hp.trans (nJ l).symm)
theorem xi {c:List Int} (h:∀ x ∈ c,wL 12 x=true):vN (jM c)= canon c:=by have hz:∀ x ∈ jM c,x≠0:=λx hx=>(wB.1 (h x ((nJ c).mem_iff.1 hx))).1;refine Xc (eL (cF c) hz (ν _)) (gS c 12) λx=>?_;rw [Yr,(nJ c).mem_iff];unfold canon;rw [tX];exact⟨λhx=>⟨hx,(wB.1 (h x hx)).1,(vM (h x hx)).2⟩,λhx=>hx.1⟩
theorem Yj {c:List Int} (hb:∃ v,v<12/\dS c v=true):∃ i,0<i/\i<(canon c).length/\(canon c).getD i 0 = -(canon c).getD (i-1) 0:=by
 obtain⟨v,hv,hb⟩:=hb;simp only [dS,Af,decide_eq_true_eq] at hb
 have key:∀ m,vV c (v+1+m)= vV c v ++ [-(v:Int)-1,(v:Int)+ 1]++(vV c (v+1+m)).drop ((vV c v).length+2):=by
  intro m
  induction m with
  | zero=>
   have:qQ c v = [-(v:Int)-1,(v:Int)+ 1]:=by unfold qQ; rw [if_pos hb.2,if_pos hb.1]; rfl
   rw [ω,vV,this,δ (by simp)]; simp
  | succ m ih=>
   rw [show v+1+(m+1)= (v+1+m)+ 1 by omega,vV];have hl:(vV c v).length+2<=(vV c (v+1+m)).length:=by rw [ih]; simp
   rw [List.drop_append_of_le_length hl,<- List.append_assoc,<- ih]
 have k:=key (11-v);rw [show v+1+(11-v)= 12 by omega] at k
 refine⟨(vV c v).length+1,by omega,?_,?_⟩
 ·unfold canon; rw [k]; simp
 ·unfold canon;rw [k,υ];simp [List.getD,List.getElem?_append_right];omega
theorem o8 {c:List Int} {i:Nat} (h0:0<i) (hi:i<(canon c).length) (he:(canon c).getD i 0 = -(canon c).getD (i-1) 0):∃ v,v<12/\dS c v=true:=by
 have m1:=tX.1 (show (canon c).getD i 0 ∈ vV c 12 from wR hi);have m2:=tX.1 (show (canon c).getD (i-1) 0 ∈ vV c 12 from wR (show i-1<(canon c).length by omega));generalize (canon c).getD i 0=x at *;generalize (canon c).getD (i-1) 0=y at *;obtain⟨a1,a2,a3⟩:=m1;obtain⟨b1,b2,b3⟩:=m2;have h0:0<=wU x:=by unfold wU; split <;> omega
 refine⟨(wU x).toNat,by omega,?_⟩;simp only [dS,Af,decide_eq_true_eq,Int.toNat_of_nonneg h0];unfold wU
 by_cases hx:x<0
 ·rw [if_pos hx];exact⟨by rw [show -x-1+1=y by omega]; exact b1,by rw [show -(-x-1)-1=x by omega]; exact a1⟩
 ·rw [if_neg hx];exact⟨by rw [show x-1+1=x by omega]; exact a1,by rw [show -(x-1)-1=y by omega]; exact b1⟩
theorem eJ {c:List Int} {k:Nat}:qE c k=true ↔ ∃ v,v<k/\dS c v=true:=by unfold qE; rw [List.any_eq_true]; simp
end Rs
end Go.Pd

/- Part X7. -/
namespace Go.Pd
open Go Go.Proofs Go.Shelf Go.Sort
variable [vA]
def vB (M:Nat->Prop) (w:World) (C:D->Prop):Type:={ p:Value × D // RP M w p.1 p.2/\p.1.oneCell'=true/\C p.2 }
theorem yg {α:Type} [Inhabited α] (enc:α->Value) (w:World) (blk off m:Nat) (d:Array α) (os:Array Obj) {b:Nat} (hb:b<w.heap.size) (hn:b≠blk):(sortWorld enc w blk off m d os).heap[b]?=w.heap[b]?:=by show (((Sort.ahead w m).heap.modify blk (onCells (putCells enc off d)))++ os)[b]?=_;rw [Aa (by simpa using hb),Ac,if_neg (λe=>hn e.symm)];rfl
theorem sr {α:Type} [Inhabited α] (enc:α->Value) (w:World) (blk off m:Nat) (d:Array α) (os:Array Obj):w.heap.size<=(sortWorld enc w blk off m d os).heap.size:=by show w.heap.size<=(((Sort.ahead w m).heap.modify blk (onCells (putCells enc off d)))++ os).size;simp [Sort.ahead]
theorem gu {α:Type} [Inhabited α] (enc:α->Value) (w:World) (blk off m:Nat) (d:Array α) (os:Array Obj) {cur:Array Value} {e:TypeId} {fr:Nat × Nat} (hc:w.heap[blk]?=some (Obj.cells cur e fr)) :
  sortWorld enc w blk off m d os=grow ((w.setRow blk (putCells enc off d cur)).drewN m) os:=by
 unfold sortWorld;congr 1;unfold putRow mapBlock Sort.ahead World.drewN World.setRow;congr 1;apply Ad;intro k;simp only [Ac]
 by_cases hk:blk=k
 ·subst hk;simp only [if_true,hc,Option.map_some,onCells]
 ·simp [hk]
theorem Yy {w w':World} (h:Kept w w' λ_=>False):∃ q os,w'=grow (w.drewN q) os:=by
 refine⟨w'.drawn-w.drawn,w'.heap.extract w.heap.size w'.heap.size,?_⟩;have hd:=h.drawn;have hs:=h.size;obtain⟨heap,tape,drawn,os,output⟩:=w;obtain⟨heap',tape',drawn',os',output'⟩:=w';have h1:=h.os;have h2:=h.tape;have h3:=h.output;have h4:=h.block;simp only at h1 h2 h3 h4 hd hs;subst h1; subst h2; subst h3;unfold grow World.drewN;simp only [World.mk.injEq,and_true,true_and];refine⟨?_,by omega⟩;apply Ad;intro i
 by_cases hi:i<heap.size
 ·rw [Aa hi,h4 i hi id]
 ·rw [Array.getElem?_append_right (by omega),Array.getElem?_extract]
  by_cases h2:i<heap'.size
  ·rw [if_pos (by omega)];congr 1; omega
  ·rw [if_neg (by omega)];exact Array.getElem?_eq_none (by omega)
theorem Wj {w:World} (q:Nat) (os:Array Obj):Kept w (grow (w.drewN q) os) λ_=>False:=by
 refine⟨rfl,rfl,rfl,by simp [World.drewN],λb hb _=>?_,λb cur e h=>⟨cur,?_,rfl⟩,by show w.drawn<=w.drawn+q; omega⟩
 ·show (w.heap++os)[b]?=_;rw [Aa hb]
 ·have hb:b<w.heap.size:=(Ab.1 h).1;show (w.heap++os)[b]?=_;rw [Aa hb];exact h
def hd (e:List D):D:=e.getD 0 .top
def Zk (cf:D->D->Int) (xZ:List (List D)):Prop:=∀ i j,i<j->j<xZ.length->¬ cf (hd (xZ.getD j [])) (hd (xZ.getD i []))<0
def vB.enc {M:Nat->Prop} {w:World} {C:D->Prop} (a:vB M w C):Value:=a.1.1
def vB.mf {M:Nat->Prop} {w:World} {C:D->Prop} (a:vB M w C):D:=a.1.2
def vB.cf {M:Nat->Prop} {w:World} {C:D->Prop} (cf:D->D->Int) (a b:vB M w C):Int:=cf a.mf b.mf
theorem Yi {α:Type} [Inhabited α] {n:Nat} {p:Nat->α->Prop} (h:∀ i,i<n->∃ a,p i a):∃ d:Array α,d.size=n/\∀ i,i<n->p i d[i]!:=by obtain⟨f,hf⟩:=Deep.choose_lt h;refine⟨((List.range n).map f).toArray,by simp,λi hi=>?_⟩;rw [getElem!_pos _ i (by simpa using hi)];simpa using hf i hi
theorem xb {α:Type} (a:Array α):a.extract 0 a.size=a:=by simp
theorem ZD {P:Program} {g:FuncId} {C:D->Prop} {cf:D->D->Int} (hcmp:∀ x y,C x->C y->zX P g [x,y] (.int .i64 (cf x y))) {M0:Nat->Prop} {w:World} {σ:St} {ι:Nat->Nat} (hS:zI M0 w σ ι) {key:Nat} {ob:Ob} (hget:σ.get key=some ob) (size:Nat) [Inhabited (vB (yO M0 ι σ) w C)] :
  CmpLays1 P g #[] (vB.enc (M:=yO M0 ι σ) (w:=w) (C:=C)) (vB.cf cf) (ι key) 0 size w:=by
 intro m os dk hdk x y;have zL:∀ b,¬ yO M0 ι σ b->b≠ι key:=λb hb e=>hb (.inr ⟨key,ob,hget,e.symm⟩)
 have hM:∀ b,yO (yO M0 ι σ) ι kT b->yO M0 ι σ b:=by
  rintro b (h | ⟨k,o,hk,_⟩)
  ·exact h
  ·cases hk
 have hsz:=sr vB.enc w (ι key) 0 m dk os;have hblock:∀ b,b<w.heap.size->¬ yO M0 ι σ b->(sortWorld vB.enc w (ι key) 0 m dk os).heap[b]?=w.heap[b]?:=λb hb hn=>yg vB.enc w (ι key) 0 m dk os hb (zL b hn)
 have S1:zI (yO M0 ι σ) (sortWorld vB.enc w (ι key) 0 m dk os) kT ι:=⟨λb hb=>π (yO.lt hS hb) hsz,(λk o hk=>by cases hk),(λk k' o o' hk=>by cases hk),(λk o hk=>by cases hk),hS.sR.xC hsz hblock λb _ hb=>hM b hb⟩
 have xC:∀ z:vB (yO M0 ι σ) w C,RP (yO (yO M0 ι σ) ι kT) (sortWorld vB.enc w (ι key) 0 m dk os) z.enc z.mf:=λz=>z.2.1.xC hblock λb _ hb=>hM b hb
 refine((hcmp x.mf y.mf x.2.2.2 y.2.2.2).run _ _ ι (#[x.enc,y.enc] ++ #[]) S1 rfl λj hj=>?_).mono λe w' hh=>?_
 ·match j,hj with
  | 0,_=>exact .pure (xC x)
  | 1,_=>exact .pure (xC y)
 ·obtain⟨v,ι',rfl,k1,k2,k3,k4,k5,k6⟩:=hh;have K0:Kept (sortWorld vB.enc w (ι key) 0 m dk os) w' λ_=>False:=k1.mono λb _ ⟨k,o,hk,_⟩=>by cases hk
  refine⟨?_,Yy K0⟩;rw [k6.yT.1];rfl
set_option maxHeartbeats 1000000 in
theorem Ul {P:Program} {ρ:Ren} (L:SlLaysF.n6 P ρ) (hord:sI P (ρ.f 6)) {g:FuncId} {C:D->Prop} {cf:D->D->Int}
  (hg:sI P g) (hcmp:∀ x y,C x->C y->zX P g [x,y] (.int .i64 (cf x y)))
  (hirr:∀ x,C x->¬ cf x x<0) (htr:∀ x y z,C x->C y->C z->cf x y<0->cf y z<0->cf x z<0) (hntr:∀ x y z,C x->C y->C z->¬ cf x y<0->¬ cf y z<0->¬ cf x z<0)
  {σ:St} {key:Nat} {xZ target:List (List D)} (hget:σ.get key=some ⟨1,xZ⟩) (hels:∀ e ∈ xZ,∃ d:D,e = [d]/\d.xO=true/\C d) (hlen:xZ.length<4611686018427387904) (zL:xZ ≠ [])
  (hT:∀ els',els'.Perm xZ->Zk cf els'->els'=target) :
  xU P (ρ.f 6) [.wZ key 1 xZ.length,.fn g []] σ (.yD []) (σ.set key ⟨1,target⟩):=by
 refine⟨hord,λM0 w ι vals hS hl hv=>?_⟩;have h0:=hv 0 (by simp);have h1:=hv 1 (by simp);simp only [List.getD_cons_zero,List.getD_cons_succ] at h0 h1;obtain⟨cap,cur0,e0,e1,kk,a1,a2,a3,a4⟩:=h0.tE;obtain⟨cb,f1,f2,f3⟩:=h1.kM;have hcb:cb = #[]:=Array.eq_empty_of_size_eq_zero (by simpa using f2);subst hcb
 have hvals:vals = #[.slice (some ⟨ι key,0,none⟩) xZ.length cap,.func (.func g) #[] #[]]:=by
  obtain⟨l⟩:=vals
  match l,hl with
  | [x,y],_=> simp at e1 f1;rw [e1,f1]
 subst hvals;clear h0 h1 hv e1 f1 f2 f3 hl;have hk:=(hS.holds key _ hget).1;obtain⟨cur,e,c1,c2,c3,c4⟩:=yZ.cells (hS.holds key _ hget).2 (χ 0);simp only [ψ] at c3
 have cell:∀ i,i<xZ.length->∃ a:vB (yO M0 ι σ) w C,a.enc=cur.getD i undef/\xZ.getD i [] = [a.mf]:=by
  intro i hi;have hm:xZ.getD i [] ∈ xZ:=by simp [List.getD,hi]
  obtain⟨d,hd,hp,hc⟩:=hels _ hm;have h:=c4 i hi 0 (χ 0);simp only [ψ,ω] at h;rw [hd] at h;exact⟨⟨(cur.getD i undef,d),h.2.yq hp,h.1,hc⟩,rfl,hd⟩
 have hpos:0<xZ.length:=List.length_pos_iff.2 zL;obtain⟨a0,_⟩:=cell 0 hpos
 haveI:Inhabited (vB (yO M0 ι σ) w C):=⟨a0⟩
 obtain⟨d,hds,hdi⟩:=Yi cell
 have hO:SWO (ltOf (vB.cf (M:=yO M0 ι σ) (w:=w) (C:=C) cf)):=by
  exact⟨λx=>decide_eq_false (hirr x.mf x.2.2.2),λx y z h1 h2=>decide_eq_true (htr x.mf y.mf z.mf x.2.2.2 y.2.2.2 z.2.2.2 (of_decide_eq_true h1) (of_decide_eq_true h2)),
   λx y z h1 h2=>decide_eq_false (hntr x.mf y.mf z.mf x.2.2.2 y.2.2.2 z.2.2.2 (of_decide_eq_false h1) (of_decide_eq_false h2))⟩
 have hH:Holds vB.enc w (ι key) 0 d:=by
  intro j hj;have hj':j<xZ.length:=by omega
  have hjc:j<cur.size:=by omega
  refine⟨?_,?_⟩
  ·rw [(hdi j hj').1];simp [World.cell?,c1,Array.getD,hjc]
  ·simp [World.frozen?,c1]
 have hcall:=Any.slices_SortFunc L (vB.enc (M:=yO M0 ι σ) (w:=w) (C:=C)) (λx=>x.2.2.1) (vB.cf cf) hO g #[] (ι key) 0 cap d w (λargs w=>oK hg args w) (ZD hcmp hS hget d.size) hH (Ab.1 c1).1 (by omega);rw [hds] at hcall;refine hcall.mono λe' w' hh=>?_;obtain⟨rfl,d',n,os,hp,hs,rfl⟩:=hh;rw [<- hds] at hp hs;have hsz:d'.size=d.size:=hp.1
 have e1:d.toList.map (λa=>[a.mf])= xZ:=by refine μ (by simpa using hds) λi h1 h2=>?_;have:=(hdi i h2).2;rw [getElem!_pos d i (by omega)] at this;simp only [List.getElem_map,Array.getElem_toList];simp only [List.getD,List.getElem?_eq_getElem h2,Option.getD_some] at this;exact this.symm
 have hperm:(d'.toList.map λa=>[a.mf]).Perm xZ:=by
  rw [<- e1];have:=hp.2.2;rw [<- hsz] at this;conv at this=>lhs; rw [xb d']
  rw [hsz,xb d] at this;exact this.map _
 have hgd:∀ i,i<d'.size->hd ((d'.toList.map λa=>[a.mf]).getD i [])= (d'[i]!).mf:=by intro i hi;rw [getElem!_pos d' i hi];simp [hd,List.getD,hi]
 have hsort:Zk cf (d'.toList.map λa=>[a.mf]):=by
  intro i j hij hj;have hj':j<d'.size:=by simpa using hj
  rw [hgd j hj',hgd i (by omega)];have:=hs i j (ο _) hij (by omega);exact of_decide_eq_false this
 have htarget:=hT _ hperm hsort;have htl:target.length=xZ.length:=by rw [<- htarget]; exact hperm.length_eq
 rw [gu _ _ _ _ _ _ _ c1];have hcs:(putCells vB.enc 0 d' cur).size=cur.size:=by simp [putCells]
 obtain⟨S2,K2⟩:=hS.set (ob':=⟨1,target⟩) hget c1 hcs (χ 0) (by simp only [ψ]; omega) ⟨λel he=>by
   rw [<- htarget] at he;simp only [List.mem_map] at he;obtain⟨a,_,rfl⟩:=he;rfl,λi hi j hj=>by
   have hj0:j=0:=by simp only at hj; omega
   subst hj0;simp only [ψ,ω];have hi':i<d'.size:=by simp only at hi; omega
   have hic:i<cur.size:=by omega
   have ev:(putCells vB.enc 0 d' cur).getD i undef=(d'[i]!).enc:=by simp [putCells,Array.getD,hic,hi']
   have ed:(target.getD i []).getD 0 .top=(d'[i]!).mf:=by rw [<- htarget]; exact hgd i hi'
   rw [ev,ed];exact⟨(d'[i]!).2.2.1,.pure (d'[i]!).2.1⟩⟩
 have K3:=Wj (w:=w.setRow (ι key) (putCells vB.enc 0 d' cur)) n os;refine⟨.tuple #[],ι,rfl,K2.trans K3 (λ_ _ h=>h) (λ_ _ h=>h.elim),S2.ext K3,ν _,λ_ _=>rfl,λk o hk=>?_,.yD rfl (λj hj=>by simp at hj)⟩
 by_cases ek:k=key
 ·subst ek; exact .inr ⟨k,_,hget,rfl⟩
 ·refine .inr ⟨k,o,?_,rfl⟩;rw [vG,if_neg (λe=>ek e.symm)] at hk;exact hk
end Go.Pd
