/- Part N3. -/
import Derived.Test.YtcniiejbcjijjaaDoorZmM18
set_option linter.unusedSectionVars false
set_option linter.unusedVariables false
set_option linter.unusedSimpArgs false
set_option linter.defProp false
set_option maxRecDepth 20000
set_option maxHeartbeats 1000000
open Go.Proofs.Tryd
open List renaming length_replicate->γ,drop_replicate->δ,map_replicate->ε,append_assoc->ζ,length_take->η
namespace Go.Pd
open Go Go.Proofs
open BitVec renaming isValue -> ZA
open Mg
theorem gp : ∀ {i:Nat},i<6->pF .or .i64 ((2 ^ i-1:Nat):Int) (cL .i64 1 (i:Int))= ((2 ^ (i+1)-1:Nat):Int)
 | 0,_=>by decide
 | 1,_=>by decide
 | 2,_=>by decide
 | 3,_=>by decide
 | 4,_=>by decide
 | 5,_=>by decide
 | _+6,h=>absurd h (by omega)
theorem iH {n:Nat} {b:BitVec 64} {t:List (BitVec 64)} (hn:n<=3) (hb:b.toNat<2 ^ 2 ^ n) (hl:t.length=2 ^ 2 ^ n) (ht:∀ i,i<t.length->(t.getD i 0).toNat<2 ^ 2 ^ n) (hp:∀ i,i<6->∀ x y:BitVec 64,x.toNat<t.length->y.toNat<t.length->rA i b t x y=true) :
  yY prog 12 [.int .i64 n,.int .u64 (ui b),.sl 1 (us t)] (.yK [.int .i64 63,.int .u64 0,.int .u64 0,.int .i64 0]):=by
 have h:=mJ hn;have hS:=eW hn;have hT:=iz hn hl ht;have hF:=λi (hi:i<6)=>qv (b:=b) hi hn hl (hp i hi);have hrl:=bN;have htab:=w5;have hcN:=pN (show 2 ^ 2 ^ n<=1000000 by omega);generalize kV=RT at *;have d1:¬ ((n:Int)<0):=by omega
 have d2:¬ ((3:Int)<(n:Int)):=by omega
 have d3:¬ ((2 ^ 2 ^ n:Nat):Int)<=ui b:=by unfold ui; omega
 refine yP func12 XF λhf=>?_;refine hU d1 d2 ?_;refine .go (cq hS) ?_;refine hU hcN d3 ?_;refine .go (cr hT) ?_;refine yN @qA ?_;refine⟨_,htab,Nat.le_refl _,?_⟩;refine yN hrl ?_
 refine xO (λi:Nat=>[(40,.int .i64 i),(39,.int .i64 6),(14,.int .u64 (ui 0#64)),(13,.int .u64 (ui 0#64)),(12,.bool true),(11,.int .i64 ((2 ^ i-1:Nat):Int)),(2,.sl 1 (us t)),(1,.int .u64 (ui b)),(0,.int .i64 n)]) (λ_=>⟨0,[]⟩) (λi=>i<=6) (λi=>6-i) 0 (Nat.zero_le _) ?_ ?_
 ·exact tW
 intro i hi;refine yQ mixed ?_
 by_cases hil:i<6
 ·have hd:((i:Int)<6):=by omega
  have hm:=gp hil;refine yN hd ?_;refine .go (cr (hF i hil)) ?_;refine fD hm ?_;refine⟨i+1,by omega,?_,by omega⟩;exact vR
 ·have hd:¬ ((i:Int)<6):=by omega
  obtain rfl:i=6:=by omega
  refine yN hd ?_;exact .drop (by simp) (by simp [vw,sB])
namespace Mg
def sA (n:Nat) (r:List Int):List (BitVec 64):=(List.range (2 ^ 2 ^ n)).map λx=>zJ r (BitVec.ofNat 64 x)
theorem nX (n:Nat) (r:List Int):(sA n r).length=2 ^ 2 ^ n:=by simp [sA]
theorem lB {n:Nat} {r:List Int} {x:Nat} (h:x<2 ^ 2 ^ n):(sA n r).getD x 0=zJ r (BitVec.ofNat 64 x):=by simp [sA,List.getD,h]
end Mg
theorem fk {n:Nat} {r:List Int} (hn:n<=3) (hl:r.length=2 ^ n) (hr:∀ x ∈ r,0<=x/\x<=1000):yY prog 11 [.int .i64 n,.sl 1 (rows .i64 r)] (.yK [.sl 1 (us (sA n r)),.int .i64 0]):=by
 have h:=mJ hn;have hC:=fX (by omega) hl hr;have hL:=λs=>iR r s (by omega);have hA:=λx (hx:x<2 ^ 2 ^ n)=>@lB n r x hx;have hAl:=nX n r;have d1:¬ ((3:Int)<(n:Int)):=by omega
 have hp:=xm (show 2 ^ n<=61 by omega);have hN0:0<2 ^ 2 ^ n:=Nat.two_pow_pos _;generalize sA n r=A at *;have up:=wc (show n<=61 by omega);generalize hN:2 ^ 2 ^ n=N at *
 obtain⟨F,hF0,hFl,hFs,hFe⟩:∃ F:Nat->List (BitVec 64),F 0=List.replicate N 0#64/\(∀ k,k<=N->(F k).length=N)/\ (∀ k,k<N->(F k).set k (A.getD k 0)= F (k+1))/\ F N=A:=by
  refine⟨λk=>A.take k++List.replicate (N-k) 0#64,by simp,λk hk=>by rw [List.length_append,η,γ]; omega,λk hk=>?_,by simp [<- hAl]⟩;show (A.take k++List.replicate (N-k) 0#64).set k (A.getD k 0)= A.take (k+1)++ List.replicate (N-(k+1)) 0#64;have e1:(A.take k).length=k:=by rw [η]; omega
  rw [List.set_append_right _ _ (by omega),e1,Nat.sub_self,show N-k=(N-(k+1))+ 1 by omega,List.replicate_succ,List.set_cons_zero,wF (d:=0) (show k<A.length by omega),ζ];rfl
 refine yP func11 XE λhf=>?_;refine xC ?_;refine .go (cr hC) ?_;simp only [simprocAttr,-ZA,↓zU,↓zD,zV,zT,zW,d1,up,hp]
 (repeat refine sd ?_)
 refine xO (λk:Nat=>[(23,.int .i64 k),(22,.int .i64 N),(7,.yR 0 1 N),(1,.sl 1 (rows .i64 r))]) (λk=>⟨1,[(0,⟨1,us (F k)⟩)]⟩) (λk=>k<=N) (λk=>N-k) 0 (Nat.zero_le _) ?_ ?_
 ·rw [nP,<- hF0];exact tW
 intro k hk;refine yQ mixed ?_;have hl:=hFl k hk;by_cases hkl:k<N
 case neg=>
  have hd:¬ ((k:Int)<(N:Int)):=by omega
  obtain rfl:N=k:=by omega
  rw [hFe];refine yN hd ?_
  (refine oN.pq [] [] (by simp) (by simp) (by decide) ?_; simp only [zP,zQ,simprocAttr,-ZA,exists_eq_left',ne_eq,zR,jT,yC,hAl])
  exact⟨λ_ h=>h.elim,Nat.le_refl _,(nd (by rw [yC,hAl])).symm,eJ _⟩
 have hd:((k:Int)<(N:Int)):=by omega
 have hck:=pN (show k<=1000000 by omega);have huk:ui (BitVec.ofNat 64 k)= (k:Int):=jY (by omega);have hLk:=hL (BitVec.ofNat 64 k);rw [<- hA k hkl,huk] at hLk;have hsg:=om (F k) k (A.getD k 0);rw [hFs k hkl] at hsg;have hg:=kJ (F k) (show k<(F k).length by omega);generalize A.getD k 0=x at *;refine hU hd hck ?_;refine .go (cr hLk) ?_;refine pk yC hl hg hsg ?_;refine⟨k+1,by omega,?_,by omega⟩;exact vR
theorem ku {k:Nat} (h1:1<=k) (h4:k<=4):yY prog 45 [.int .u64 1,.int .u64 k] (.yK [.int .u64 0,.int .u64 k]):=by
 refine yP func45 Xk λhf=>?_;refine xC ?_;refine .drop (by simp) ?_;have hk:k=1\/k=2\/k=3\/k=4:=by omega
 rcases hk with rfl | rfl | rfl | rfl
 ·simp only [vw,sB];exact⟨rfl,congrArg (D.int .u64) (by decide +kernel),congrArg (D.int .u64) (by decide +kernel),trivial⟩
 ·simp only [vw,sB];exact⟨rfl,congrArg (D.int .u64) (by decide +kernel),congrArg (D.int .u64) (by decide +kernel),trivial⟩
 ·simp only [vw,sB];exact⟨rfl,congrArg (D.int .u64) (by decide +kernel),congrArg (D.int .u64) (by decide +kernel),trivial⟩
 ·simp only [vw,sB];exact⟨rfl,congrArg (D.int .u64) (by decide +kernel),congrArg (D.int .u64) (by decide +kernel),trivial⟩
theorem al {k:Nat} (h1:1<=k) (h4:k<=4):yY prog 26 [.int .u64 1,.int .u64 k] (.yK [.int .u64 0,.int .u64 k]):=by have h:=ku h1 h4;refine yP func26 XU λhf=>?_;refine xC ?_;refine .go (cq h) ?_;refine xC ?_;exact .drop (by simp) (by simp [vw,sB])
open Mg
theorem jq (b:BitVec 64) {k:Nat} (h1:1<=k) (h4:k<=4):yY prog 13 [.sl 1 (us [b]),.int .i64 k] (.sl 1 (us (List.replicate k b))):=by
 have hM:yY prog 26 [.int .u64 (ui 1#64),.int .u64 k] (.yK [.int .u64 (ui 0#64),.int .u64 k]):=al h1 h4;have d1:¬ (k:Int)<0:=by omega
 have d2:¬ (9223372036854775807:Int)<(k:Int):=by omega
 have d3:¬ ui 0#64<ui 0#64:=by omega
 have c1:IntKind.u64.wrap (k:Int)= (k:Int):=pN (by omega);have c2:IntKind.i64.wrap (k:Int)= (k:Int):=wrap_i64 (by omega);have c3:IntKind.u64.wrap 1=1:=rfl;have hmn:0<min k 1:=by omega
 obtain⟨F,hF1,hFl,hFt,hFs,hFe⟩:∃ F:Nat->List (BitVec 64),us (F 1)= [.int .u64 (ui b)] :: (us (List.replicate k 0#64)).drop 1/\(∀ m,m<=k->(F m).length=k)/\ (∀ m,m<=k->(F m).take m=List.replicate m b)/\
   (∀ m j,1<=m->m<=k->j<=m->m+j<=k->(us (F m)).take m++((us (List.replicate m b)).take j++(us (F m)).drop (m+j))= us (F (m+j)))/\ F k=List.replicate k b:=by
  refine⟨λm=>List.replicate m b++List.replicate (k-m) 0#64,?_,λm hm=>by simp; omega,λm hm=>by simp,λm j hm hmk hj hk=>?_,by simp⟩
  ·simp only [us,List.map_append,ε,δ];rfl
  ·simp only [us,List.map_append,ε,List.take_replicate,List.drop_append,δ,γ,List.take_append,Nat.sub_self];rw [show min m m=m by omega,show min j m=j by omega,show m-(m+j)= 0 by omega,show m+j-m=j by omega,show k-m-j=k-(m+j) by omega];simp only [Nat.zero_min,List.replicate_zero,List.append_nil,List.nil_append];rw [<- ζ,List.replicate_append_replicate]
 refine yP func13 XG λhf=>?_;refine pk d1 yC c1 c3 ?_;refine .go (cq hM) ?_;refine uf d2 d3 c2 ?_;refine⟨by rw [γ]; exact Nat.le_refl _,hmn,?_⟩;rw [show min k 1=1 by omega]
 refine xO (λm:Nat=>[(8,.int .i64 m),(7,.yR 0 1 k)]) (λm=>⟨1,[(0,⟨1,us (F m)⟩)]⟩) (λm=>1<=m/\m<=k) (λm=>k-m) 1 ⟨Nat.le_refl _,h1⟩ ?_ ?_
 ·rw [hF1];simp only [nP,List.take_succ_cons,List.take_zero,List.cons_append,List.nil_append];exact tW
 intro m ⟨hm1,hm⟩;refine yQ mixed ?_;have hl:=hFl m hm;by_cases hml:m<k
 case neg=>
  have hd:¬ ((m:Int)<(k:Int)):=by omega
  obtain rfl:k=m:=by omega
  rw [hFe];refine yN hd ?_;refine .drop (by simp) (bK (by simp) (eJ _) (by rw [yC,γ]))
 have hd:((m:Int)<(k:Int)):=by omega
 have e1:¬ (m:Int)= 0:=by omega
 have e2:¬ (m:Int)= (k:Int):=by omega
 have e3:((k:Int).toNat-(m:Int).toNat)= k-m:=by omega
 have ht:(us (F m)).take m=us (List.replicate m b):=by rw [<- hFt m hm]; simp [us,List.map_take]
 have hs:=hFs m (min (k-m) m) hm1 hm (Nat.min_le_right _ _) (by omega);refine yN hd ?_;refine⟨m,k,rfl,rfl,by omega,by omega,by omega,?_⟩;simp only [e1,e2,if_false];refine xC ?_;refine⟨0,m,rfl,rfl,by omega,by omega,by omega,?_⟩;refine rE yC hl ?_;rw [if_pos hm,hFt m hm];simp only [yC,γ];refine⟨oi _,by omega,by omega,m+min (k-m) m,⟨by omega,by omega⟩,?_,by omega⟩;rw [show us (List.replicate m b)= (us (F m)).take m from ht.symm,show ((us (F m)).take m).take (min (k-m) m)= (us (List.replicate m b)).take (min (k-m) m) by rw [ht],hs]
 (refine zG.same ?_; simp only [wR,Fr.get,simprocAttr,-ZA,zS])
 rw [wrap_i64 (by omega)];omega
end Go.Pd
