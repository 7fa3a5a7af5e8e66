/- Part CC. -/
import Derived.Test.YtccobgpcnfjbhaaZcSM
import Derived.Test.YtccobgpcnfjbhaaZcRK
import Derived.Test.YtccobgpcnfjbhaaZcSH
import Derived.Test.YtccobgpcnfjbhaaZcX7
set_option linter.unusedSectionVars false
set_option linter.unusedVariables false
set_option linter.unusedSimpArgs false
set_option linter.defProp false
set_option maxRecDepth 20000
set_option maxHeartbeats 1000000
open Go.Proofs.Try
open List renaming take_of_length_le->γ,map_congr_left->δ,mem_range->ε,length_take->ζ,nil_append->η,take_zero->θ,mem_cons->μ,map_map->ν,map_append->ξ,set_cons_zero->ο,mem_singleton->π,length_append->τ,not_mem_nil->υ,length_drop->χ,ext_getElem->ψ,cons_append->ω,any_eq_true->Aa
open Nat renaming zero_le->Ab,le_refl->Ac
namespace Go.Pd
open Go Go.Proofs
open BitVec renaming isValue -> ZA
open Ru
theorem Y9 {rs:List xN} {A F T:Nat} (ok:lS rs A F T):xS prog 61 [sD A F T rs] mR (.agg [.int .i64 A,.int .i64 F,.int .i64 T,.yW 0 2 rs.length]) ⟨1,[(0,⟨2,xK rs⟩)]⟩:=by
 obtain⟨T1,T16⟩:=ok.hT;obtain⟨R1,R64⟩:=ok.hR;have hA:=ok.hA;have hgR:xI 3 2 (xK rs)= .yW 3 2 rs.length:=by rw [sY (by rw [xV]; omega),xV]
 unfold sD;refine zL func61 Tv λhf=>?_;refine uB ?_
 refine xO (λi:Nat=>[(4,.int .i64 i),(3,.ref 2 4 0 0),(2,.ref 1 4 0 0),(1,.ref 0 4 0 0)])
  (λi=>⟨4,xM 3 2 (xK (rs.take i))++ [(2,⟨4,[[.int .i64 A,.int .i64 F,.int .i64 T,xI 3 2 (xK (rs.take i))]]⟩),(1,⟨4,[[.int .i64 0,.int .i64 0,.int .i64 0,.xZ]]⟩),(0,⟨4,[[.int .i64 (A:Int),.int .i64 (F:Int),.int .i64 (T:Int),.sl 2 (xK rs)]]⟩)]⟩) (λi=>i<=rs.length) (λi=>rs.length-i) 0 (Ab _) ?_ ?_
 ·(refine lP [] [2,1,0] ?_; simp only [vX,zQ,simprocAttr,-ZA,exists_eq_left',ne_eq,zR,θ,zt,wK,wL,η])
 intro i hi;refine xE mixed ?_;by_cases hil:i<rs.length
 case neg=>
  have hd:¬ ((i:Int)<(rs.length:Int)):=by omega
  rw [γ (show rs.length<=i by omega)];refine yz hd xV hgR ?_
  (refine rT.uz [(0,3)] [0] (by simp) (by simp) (by decide) ?_; simp only [vX,zQ,simprocAttr,-ZA,exists_eq_left',ne_eq,zR,yY,hgR])
  exact⟨_,yQ (by rw [xV]; omega),rfl,by simp only [fZ,yY]⟩
 have hd:((i:Int)<(rs.length:Int)):=by omega
 have hg:=wE rs hil;have hm:=yX (d:=yF) hil;have hfl:=ok.zM _ hm;have hll:=ok.loc _ hm;have hrw:=ok.row _ hm;have hS:=yD (d:=yF) hil;have hSl:(rs.take i).length=i:=by rw [ζ]; omega
 generalize rs.getD i yF=run at hg hfl hll hrw hS;obtain⟨loc,zM⟩:=run;unfold xN.row at hg;simp only at hg hfl hll hrw hS;generalize rs.take i=S0 at *;refine lR hd xV ?_
 refine rI (λk:Nat=>[(6,.int .i64 k),(5,.ref 4 2 0 0),(4,.int .i64 i),(3,.ref 2 4 0 0),(2,.ref 1 4 0 0),(1,.ref 0 4 0 0)])
  (λk=>⟨6,xM 5 1 (us (zM.take k))++ ((4,⟨2,[[.xZ,xI 5 1 (us (zM.take k))]]⟩) :: (xM 3 2 (xK S0)++ [(2,⟨4,[[.int .i64 A,.int .i64 F,.int .i64 T,xI 3 2 (xK S0)]]⟩),(1,⟨4,[[.int .i64 0,.int .i64 0,.int .i64 0,.xZ]]⟩),(0,⟨4,[[.int .i64 (A:Int),.int .i64 (F:Int),.int .i64 (T:Int),.sl 2 (xK rs)]]⟩)]))⟩) (λk=>k<=T) (λk=>T-k) 0 (Ab _) ?_ ?_
 ·(refine lP [] [4,3,2,1,0] ?_; simp only [vX,zQ,simprocAttr,-ZA,exists_eq_left',ne_eq,zR,θ,uj,wK,wL,η,yY])
 intro k hk;refine xE mixed ?_
 by_cases hkl:k<T
 ·have hd2:((k:Int)<(T:Int)):=by omega
  have hgf:=gL zM (show k<zM.length by omega);have hF:=yD (d:=0) (show k<zM.length by omega);have hFl:(zM.take k).length=k:=by rw [ζ]; omega
  generalize zM.getD k 0=x at hgf hF;generalize zM.take k=fs at *;refine p7 hd2 hg xV zB hfl hgf hFl ?_;refine⟨k+1,by omega,?_,by omega⟩;rw [hF];exact cY [(5,6)] [5,4,3,2,1,0] iA yY
 have hd2:¬ ((k:Int)<(T:Int)):=by omega
 rw [γ (show zM.length<=k by omega)];refine iM hd2 hg xV zB hfl ?_
 refine .go [(5,.ref 4 2 0 0),(4,.int .i64 i),(3,.ref 2 4 0 0),(2,.ref 1 4 0 0),(1,.ref 0 4 0 0)]
  ⟨5,(4,⟨2,[[.xZ,.sl 1 (us zM)]]⟩) :: (xM 3 2 (xK S0)++ [(2,⟨4,[[.int .i64 A,.int .i64 F,.int .i64 T,xI 3 2 (xK S0)]]⟩),(1,⟨4,[[.int .i64 0,.int .i64 0,.int .i64 0,.xZ]]⟩),(0,⟨4,[[.int .i64 (A:Int),.int .i64 (F:Int),.int .i64 (T:Int),.sl 2 (xK rs)]]⟩)])⟩ ?_ ?_
 ·exact cY [] [4,3,2,1,0] yY fP
 refine wU ?_
 refine rI (λt:Nat=>[(7,.int .i64 t),(5,.ref 4 2 0 0),(4,.int .i64 i),(3,.ref 2 4 0 0),(2,.ref 1 4 0 0),(1,.ref 0 4 0 0)])
  (λt=>⟨6,xM 5 1 (rl (loc.take t))++ ((4,⟨2,[[xI 5 1 (rl (loc.take t)),.sl 1 (us zM)]]⟩) :: (xM 3 2 (xK S0)++ [(2,⟨4,[[.int .i64 A,.int .i64 F,.int .i64 T,xI 3 2 (xK S0)]]⟩),(1,⟨4,[[.int .i64 0,.int .i64 0,.int .i64 0,.xZ]]⟩),(0,⟨4,[[.int .i64 (A:Int),.int .i64 (F:Int),.int .i64 (T:Int),.sl 2 (xK rs)]]⟩)]))⟩) (λt=>t<=T) (λt=>T-t) 0 (Ab _) ?_ ?_
 ·(refine lP [] [4,3,2,1,0] ?_; simp only [vX,zQ,simprocAttr,-ZA,exists_eq_left',ne_eq,zR,θ,ug,wK,wL,η,yY])
 intro t ht;refine xE mixed ?_
 by_cases htl:t<T
 ·have hd3:((t:Int)<(T:Int)):=by omega
  have hgt:=wG loc (show t<loc.length by omega);have hxl:=hrw _ (yX (d:=[]) (show t<loc.length by omega));have hL:=yD (d:=[]) (show t<loc.length by omega);have hLl:(loc.take t).length=t:=by rw [ζ]; omega
  generalize loc.getD t []=x at hgt hxl hL;generalize loc.take t=L0 at *;refine iM hd3 hg xV xP hll ?_
  refine rI (λa:Nat=>[(9,.int .i64 a),(8,xI 6 1 (rows .i64 (x.take a))),(7,.int .i64 t),(5,.ref 4 2 0 0),(4,.int .i64 i),(3,.ref 2 4 0 0),(2,.ref 1 4 0 0),(1,.ref 0 4 0 0)])
   (λa=>⟨7,xM 6 1 (rows .i64 (x.take a))++ (xM 5 1 (rl L0)++ ((4,⟨2,[[xI 5 1 (rl L0),.sl 1 (us zM)]]⟩) :: (xM 3 2 (xK S0)++ [(2,⟨4,[[.int .i64 A,.int .i64 F,.int .i64 T,xI 3 2 (xK S0)]]⟩),(1,⟨4,[[.int .i64 0,.int .i64 0,.int .i64 0,.xZ]]⟩),(0,⟨4,[[.int .i64 (A:Int),.int .i64 (F:Int),.int .i64 (T:Int),.sl 2 (xK rs)]]⟩)])))⟩) (λa=>a<=A) (λa=>A-a) 0 (Ab _) ?_ ?_
  ·(refine lP [] [5,4,3,2,1,0] ?_; simp only [vX,zQ,simprocAttr,-ZA,exists_eq_left',ne_eq,zR,θ,pI,wK,wL,η,yY,uS])
  intro a ha;refine xE mixed ?_
  by_cases hal:a<A
  ·have hd4:((a:Int)<(A:Int)):=by omega
   have hgx:=yU .i64 x (show a<x.length by omega);have hX:=yD (d:=0) (show a<x.length by omega);have hXl:(x.take a).length=a:=by rw [ζ]; omega
   generalize x.getD a 0=y at hgx hX;generalize x.take a=fs at *;refine Vh hd4 hg xV xP hll hgt hgx xF hxl hXl ?_;refine⟨a+1,by omega,?_,by omega⟩;rw [hX]
   (refine lP [(6,7)] [6,5,4,3,2,1,0] ?_; simp only [vX,zQ,simprocAttr,-ZA,exists_eq_left',ne_eq,zR,jV,yY,uS,vD])
   exact pM (by omega)
  have hd4:¬ ((a:Int)<(A:Int)):=by omega
  rw [γ (show x.length<=a by omega)];refine Tl hd4 hg xV xP hll hgt xF hxl ?_
  refine .go [(8,.sl 1 (rows .i64 x)),(7,.int .i64 t),(5,.ref 4 2 0 0),(4,.int .i64 i),(3,.ref 2 4 0 0),(2,.ref 1 4 0 0),(1,.ref 0 4 0 0)]
   ⟨6,xM 5 1 (rl L0)++ ((4,⟨2,[[xI 5 1 (rl L0),.sl 1 (us zM)]]⟩) :: (xM 3 2 (xK S0)++ [(2,⟨4,[[.int .i64 A,.int .i64 F,.int .i64 T,xI 3 2 (xK S0)]]⟩),(1,⟨4,[[.int .i64 0,.int .i64 0,.int .i64 0,.xZ]]⟩),(0,⟨4,[[.int .i64 (A:Int),.int .i64 (F:Int),.int .i64 (T:Int),.sl 2 (xK rs)]]⟩)]))⟩ ?_ ?_
  ·exact ZV [] [5,4,3,2,1,0] yY uS vD
  refine lR xP hLl ?_;refine⟨t+1,by omega,?_,by omega⟩;rw [hL];exact ZV [(5,7)] [5,4,3,2,1,0] qM yY uS
 have hd3:¬ ((t:Int)<(T:Int)):=by omega
 rw [γ (show loc.length<=t by omega)];refine iM hd3 hg xV xP hll ?_
 refine .go [(5,.ref 4 2 0 0),(4,.int .i64 i),(3,.ref 2 4 0 0),(2,.ref 1 4 0 0),(1,.ref 0 4 0 0)]
  ⟨5,(4,⟨2,[[.sl 1 (rl loc),.sl 1 (us zM)]]⟩) :: (xM 3 2 (xK S0)++ [(2,⟨4,[[.int .i64 A,.int .i64 F,.int .i64 T,xI 3 2 (xK S0)]]⟩),(1,⟨4,[[.int .i64 0,.int .i64 0,.int .i64 0,.xZ]]⟩),(0,⟨4,[[.int .i64 (A:Int),.int .i64 (F:Int),.int .i64 (T:Int),.sl 2 (xK rs)]]⟩)])⟩ ?_ ?_
 ·exact cY [] [4,3,2,1,0] yY uS
 have hsn:=bV S0 ⟨loc,zM⟩;simp only at hsn;refine lR xV hSl ?_;refine⟨i+1,by omega,?_,by omega⟩;rw [hS];exact cY [(3,6)] [3,2,1,0] hsn yY
open Ru
namespace Ru
def lM (rs:List xN) (n i:Nat):List xN:=(oY rs n).take i++rs.drop i
theorem v8 {rs:List xN} {n i:Nat} (h:i<rs.length):(xK (lM rs n i)).getD i []=(rs.getD i yF).row:=by
 have hl:((oY rs n).take i).length=i:=by rw [ζ,uE]; omega
 rw [wE _ (by unfold lM; rw [τ,hl,χ]; omega)];unfold lM;simp [List.getD,hl,h,List.getElem?_append_right]
theorem w8 (rs:List xN) (n i:Nat) (h:i<=rs.length):(lM rs n i).length=rs.length:=by unfold lM;rw [τ,ζ,uE,χ];omega
theorem w9 {rs:List xN} {n i:Nat} (h:i<rs.length):(xK (lM rs n i)).set i [.sl 1 (rl ((rs.getD i yF).loc.take n)),.sl 1 (us ((rs.getD i yF).zM.take n))]=xK (lM rs n (i+1)):=by
 have hl:((oY rs n).take i).length=i:=by rw [ζ,uE]; omega
 have h1:(oY rs n).take (i+1)= (oY rs n).take i ++ [(oY rs n).getD i yF]:=yD (by rw [uE]; exact h)
 have h2:rs.drop i=rs.getD i yF :: rs.drop (i+1):=by rw [List.drop_eq_getElem_cons h];simp [List.getD,h]
 unfold lM xK;rw [h1,h2,wg h];rw [ξ,ξ,ξ,List.set_append_right _ _ (by rw [List.length_map,hl]; exact Ac _)];simp only [List.length_map,hl,Nat.sub_self,List.map_cons,List.map_nil,ο,xN.row,List.append_assoc,ω,η]
end Ru
theorem oi {rs:List xN} {A F T:Nat} (ok:lS rs A F T) (n:Nat) (xW:List (Nat × Ob)):xS prog 61 [.agg [.int .i64 A,.int .i64 F,.int .i64 T,.sl 2 (xK rs)]] ⟨n,xW⟩ (.agg [.int .i64 A,.int .i64 F,.int .i64 T,.yW n 2 rs.length]) ⟨n+1,(n,⟨2,xK rs⟩) :: xW⟩:=by have h:=xS.own (σ:=⟨n,xW⟩) (Y9 ok) rfl;simp only [D.shift,D.yJ,yN,List.map_cons,List.map_nil,Ob.shift,Nat.add_zero,ω,η] at h;rw [nP n (rH rs)] at h;exact h
theorem Wy {rs:List xN} {A F T:Nat} (ok:lS rs A F T) {n:Nat} (h1:1<=n) (hn:n<=T):yA prog 20 [sD A F T rs,.int .i64 n] (.yE [sD A F n (oY rs n),.int .i64 0]):=by
 have hC:=uR ⟨A,F,T,rs⟩;rw [nH ok] at hC;have hK:=oi ok;have hR:=ok.hR;have q1:¬ (n:Int)<1:=by omega
 have q2:¬ (T:Int)<(n:Int):=by omega
 unfold sD;unfold wQ.d wQ.cells at hC;simp only at hC;refine zL func20 VS λhf=>?_;refine uB ?_;refine .go (cq hC) ?_;refine lR q1 q2 ?_;refine .go (hK _ _) ?_;refine uB ?_;have hl0:=xV rs
 refine xO (λi:Nat=>[(8,.int .i64 i),(7,.ref 3 4 0 0),(4,.ref 1 4 0 0),(1,.int .i64 n)])
  (λi=>⟨4,[(3,⟨4,[[.int .i64 A,.int .i64 F,.int .i64 n,.yW 2 2 rs.length]]⟩),(2,⟨2,xK (lM rs n i)⟩),(1,⟨4,[[.int .i64 0,.int .i64 0,.int .i64 0,.xZ]]⟩)]⟩) (λi=>i<=rs.length) (λi=>rs.length-i) 0 (Ab _) ?_ ?_
 ·rw [show lM rs n 0=rs by simp [lM]];exact aU [] [3,2,1] yY
 intro i hi;refine xE mixed ?_;by_cases hil:i<rs.length
 case neg=>
  have hd:¬ ((i:Int)<(rs.length:Int)):=by omega
  have e:lM rs n i=oY rs n:=by unfold lM; rw [γ (by rw [uE]; omega),List.drop_eq_nil_of_le (by omega),List.append_nil]
  rw [e];refine pZ hd ?_
  (refine rT.uz [] [] (by simp) (by simp) (by decide) ?_; simp only [vX,zQ,simprocAttr,-ZA,exists_eq_left',ne_eq,zR,yY,xV,uE])
  exact⟨λ_ h=>h.elim,Ac _,(γ (by rw [xV,uE]; exact Ac _)).symm,rH _⟩
 have hd:((i:Int)<(rs.length:Int)):=by omega
 have hg:=@v8 rs n i hil;have hs:=@w9 rs n i hil;have hlen:=w8 rs n i (by omega);have hm:=yX (d:=yF) hil;have hfl:=ok.zM _ hm;have hll:=ok.loc _ hm;generalize rs.getD i yF=run at hg hs hfl hll;obtain⟨loc,zM⟩:=run;unfold xN.row at hg;simp only at hg hs hfl hll;have z1:(rl loc).take n=rl (loc.take n):=by simp [rl,List.map_take]
 have z2:(us zM).take n=us (zM.take n):=by simp [us,List.map_take]
 refine uv hd xV hlen hg ?_;have hgs:∀ e:List D,((xK (lM rs n i)).set i e).getD i []=e:=λe=>by simp [List.getD,xV,hlen,hil]
 refine⟨0,n,rfl,rfl,by omega,by omega,by rw [xP]; omega,by omega,hil,by omega,hil,?_⟩;rw [hgs];simp only [List.drop_succ_cons,List.drop_zero,List.take_succ_cons,θ,bP,Int.toNat_zero,Int.toNat_natCast];refine⟨trivial,0,n,rfl,rfl,by omega,by omega,by rw [zB]; omega,by omega,hil,i+1,by omega,?_,by omega⟩;simp only [Int.toNat_zero,Int.toNat_natCast,List.drop_zero,List.set_set,hgs,z1,z2,ο,List.set_cons_succ,hs];exact aU [] [3,2,1] yY
open Ru
namespace Ru
theorem mW {l:List (List Int)} {x:List Int}:∀ {k:Nat},x ∈ tQ l k ↔ ∃ i,i<k/\l.getD i []=x
 | 0=>by simp [tQ]
 | k + 1=>by
  unfold tQ
  split
  ·rename_i h;rw [mW]
   constructor
   ·rintro ⟨i,hi,e⟩; exact⟨i,by omega,e⟩
   ·rintro ⟨i,hi,e⟩
    by_cases c:i=k
    ·obtain⟨y,hy,hyk⟩:=Aa.1 h;have hyk:y=l.getD k []:=by simpa using hyk
     subst c;rw [hyk,e] at hy;exact mW.1 hy
    ·exact⟨i,by omega,e⟩
  ·rw [List.mem_append,π,mW]
   constructor
   ·rintro (⟨i,hi,e⟩ | e)
    ·exact⟨i,by omega,e⟩
    ·exact⟨k,by omega,e.symm⟩
   ·rintro ⟨i,hi,e⟩
    by_cases c:i=k
    ·subst c; exact .inr e.symm
    ·exact .inl ⟨i,by omega,e⟩
theorem nN {l:List (List Int)}:∀ {k:Nat},(tQ l k).Nodup
 | 0=>List.nodup_nil
 | k+1=>by
  unfold tQ
  split
  ·exact nN
  ·rename_i h;refine List.nodup_append.2 ⟨nN,by simp,λa ha b hb e=>h ?_⟩;rw [π] at hb;exact Aa.2 ⟨a,ha,by rw [e,hb]; simp⟩
theorem z6 (l:List (List Int)):(p9 l).Perm (dedup (tH l)):=by
 refine(List.perm_ext_iff_of_nodup nN (vi (eW l))).2 λx=>?_;rw [jx,(jJ l).mem_iff,mW]
 constructor
 ·rintro ⟨i,hi,rfl⟩;simp [List.getD,hi]
 ·intro h;obtain⟨i,hi,e⟩:=List.getElem_of_mem h;exact⟨i,hi,by simp [List.getD,hi,e]⟩
theorem jj (l:List (List Int)) (x:List Int):below (p9 l) x=below (dedup (tH l)) x:=by unfold below;exact((z6 l).filter _).length_eq
end Ru
open Ru
theorem bB {l:List Int}:∀ {k:Nat},(zK l (k+1)).getD ((zK l (k+1)).length-1) 0=l.getD k 0
 | 0=>by simp [zK]
 | k+1=>by
  have ih:=@bB l k;unfold zK
  split
  ·rename_i h;rw [ih,h.2];rfl
  ·simp [List.getD]
theorem mg {rs:List xN} {A F T:Nat} (ok:lS rs A F T) {a:Nat} (ha:a<A) {p:Nat × Nat} (hp:p.1<rs.length/\p.2<T):yA prog 109 [sD A F T rs,.int .i64 a,.agg [.int .i64 (p.1:Int),.int .i64 (p.2:Int)]] (.sl 1 (rows .i64 (lN rs a p))):=by
 obtain⟨r,tt⟩:=p;simp only at hp ⊢;have hT:=ok.hT;have hL:lN rs a (r,tt)= zK (sF rs a r (tt+1)) (tt+1):=by show zK _ (sF rs a r (tt+1)).length=_; rw [fF]
 rw [hL];have hl:=λt (ht:t<=tt)=>ot ok ha (p:=(r,t)) ⟨hp.1,by show t<T; omega⟩;have hg:∀ t,t<=tt->(sF rs a r (tt+1)).getD t 0=iH rs a (r,t):=λt ht=>by simp [sF,List.getD,show t<tt+1 by omega]
 have hle:=λk=>gV (sF rs a r (tt+1)) k;have hla:=λk=>@bB (sF rs a r (tt+1)) k;have hst:∀ k,zK (sF rs a r (tt+1)) (k+1)= if 0<k/\(sF rs a r (tt+1)).getD k 0=(sF rs a r (tt+1)).getD (k-1) 0 then zK (sF rs a r (tt+1)) k else zK (sF rs a r (tt+1)) k ++ [(sF rs a r (tt+1)).getD k 0]:=λk=>rfl;have hpo:=λk=>kU (sF rs a r (tt+1)) k;have hz:zK (sF rs a r (tt+1)) 0 = []:=rfl;generalize sF rs a r (tt+1)= L at *;unfold sD at *;simp only at hl;refine zL func109 WB λhf=>?_;refine uB ?_
 refine xO (λt:Nat=>[(8,.int .i64 t),(7,xI 2 1 (rows .i64 (zK L t))),(5,.ref 1 2 0 0),(3,.ref 0 4 0 0),(1,.int .i64 a)])
  (λt=>⟨3,xM 2 1 (rows .i64 (zK L t))++ [(1,⟨2,[[.int .i64 r,.int .i64 tt]]⟩),(0,⟨4,[[.int .i64 A,.int .i64 F,.int .i64 T,.sl 2 (xK rs)]]⟩)]⟩) (λt=>t<=tt+1) (λt=>tt+1-t) 0 (Ab _) ?_ ?_
 ·(refine lP [] [1,0] ?_; simp only [vX,zQ,simprocAttr,-ZA,exists_eq_left',ne_eq,zR,hz,pI,wK,wL,η])
 intro t ht;refine xE mixed ?_;by_cases htl:t<=tt
 case neg=>
  have hd:¬ ((t:Int)<=(tt:Int)):=by omega
  obtain rfl:t=tt+1:=by omega
  refine vY hd ?_
  (refine rT.uz [] [] (by simp) (by simp) (by decide) ?_; simp only [vX,zQ,simprocAttr,-ZA,exists_eq_left',ne_eq,zR,vD])
 have hd:((t:Int)<=(tt:Int)):=by omega
 have hl:=hl t htl;rw [<- hg t htl] at hl;have hst:=hst t;have hle:=hle t
 by_cases h0:t=0
 ·subst h0;rw [if_neg (by omega)] at hst;clear hz;generalize zK L 0=O at *;generalize L.getD 0 0=x at *;have hd0:(0:Int)<=(tt:Int):=by omega
  refine pZ hd0 ?_;refine .go (cr hl) ?_;refine pZ xF ?_;refine⟨0+1,by omega,?_,by omega⟩;rw [hst];exact aU [(2,3)] [2,1,0] vD
 ·obtain⟨u,rfl⟩:∃ u,t=u+1:=⟨t-1,by omega⟩;have hla:=hla u;have hpo:=hpo u;have e1:(((u+1:Nat):Int)== 0)= false:=by rw [beq_eq_false_iff_ne]; omega
  rw [show u+1-1=u from rfl] at hst;generalize zK L (u+1)= O at *;generalize L.getD (u+1) 0=x at *;generalize L.getD u 0=y at *;have hO:=yU .i64 O (show O.length-1<O.length by omega);rw [hla] at hO;have hw:IntKind.i64.wrap ((O.length:Int)-1)= ((O.length-1:Nat):Int):=by rw [wrap_i64 (by omega)]; omega
  have hlt:(((O.length-1:Nat):Int))<(O.length:Int):=by omega
  by_cases c:x=y
  ·have c1:(x != y)= false:=by simpa using c
   rw [if_pos ⟨by omega,c⟩] at hst;refine pZ hd ?_;refine .go (cr hl) ?_;refine p6 e1 xF hw hlt hO c1 ?_;refine⟨u+1+1,by omega,?_,by omega⟩;rw [hst];exact sW
  ·have c1:(x != y)= true:=by simpa using c
   rw [if_neg (λh=>c h.2)] at hst;refine pZ hd ?_;refine .go (cr hl) ?_;refine p6 e1 xF hw hlt hO c1 ?_;refine⟨u+1+1,by omega,?_,by omega⟩;rw [hst];exact aU [(2,3)] [2,1,0] vD
open Ru
namespace Ru
theorem ti (n:Nat) (rs:List xN) (T:Nat) (κ:Nat->Nat) (i:Nat):D.yJ n (rW rs T κ i)= rW rs T (λu=>n+κ u) i:=by simp only [rW,D.yJ,D.shift]
theorem tj (n A T:Nat) (κ:Nat->Nat):(vQ A κ T).map (D.yJ n)= vQ A (λt=>n+κ t) T:=by unfold vQ;rw [ν];exact δ λi _=>rfl
theorem nd (n A T:Nat) (v:Nat->Nat->List Int) (κ:Nat->Nat) (i:Nat):∀ u,(jd A T v κ i u).shift n=jd A T v (λu=>n+κ u) i u
 | 0=>by show (⟨1,(vQ A (λt=>κ (t+1)) T).map (D.yJ n)⟩:Ob)= ⟨1,vQ A (λt=>n+κ (t+1)) T⟩;rw [tj]
 | t+1=>by show (⟨1,(rows .i64 (v i t)).map (D.yJ n)⟩:Ob)= ⟨1,rows .i64 (v i t)⟩;rw [nP n (vK .i64 (v i t))]
theorem mL {α:Type} (c:Nat) (k:α->Nat) (o:α->Ob):∀ l:List α,yN c (l.map λx=>(k x,o x))= l.map λx=>(c+k x,(o x).shift c)
 | []=>rfl
 | x :: l=>by show _ :: yN c (l.map _)= _;rw [mL c k o l]; rfl
theorem Wq (n T i u:Nat):n+kC 0 T i u=kC n T i u:=by unfold kC; omega
theorem nc (n:Nat) (rs:List xN) (A T:Nat) (v:Nat->Nat->List Int):yN n (sE 0 rs A T v)= sE n rs A T v:=by
 have e:(λi u=>n+kC 0 T i u)= kC n T:=by funext i u; exact Wq n T i u
 unfold sE;show (n+0,Ob.shift n _) :: yN n (List.map _ _)= _;rw [mL n (λw=>0+(1+w)) (λw=>jd A T v (kC 0 T (w / (T+1))) (w / (T+1)) (w % (T+1)))]
 congr 1
 ·show (n,(⟨2,(zC (rW rs T) (kC 0 T) rs.length).map (D.yJ n)⟩:Ob))= _;congr 2;unfold zC;rw [ν];refine δ λi _=>?_;show D.yJ n (rW rs T (kC 0 T i) i)= _;rw [ti,<- e]
 ·refine δ λw _=>?_;rw [nd,<- e];congr 1;omega
theorem jw {a b:Nat} {rs:List xN} {A T:Nat} {v:Nat->Nat->List Int} {σ σ':St} {ρ:Nat->Nat} (hN:b+(1+rs.length*(T+1))<=σ'.nx) (hρ:∀ k,k<1+rs.length*(T+1)->ρ (b+k)= a+k)
  (hl:∀ k,a<=k->k<a+(1+rs.length*(T+1))->St.look σ.xW k=St.look (sE a rs A T v) k) :
  ∀ q ∈ sE b rs A T v,q.1<σ'.nx/\∃ ob,σ.get (ρ q.1)= some ob/\ob.sz=q.2.sz/\dC σ σ' ρ ob.xX q.2.xX:=by
 have hk:∀ i u,i<rs.length->u<T+1->ρ (kC b T i u)= kC a T i u/\kC b T i u<σ'.nx:=λi u hi hu=>by have h1:=gl (T:=T) hi hu;have:=hρ (1+(i*(T+1)+ u)) (by omega);unfold kC;exact⟨this,by omega⟩
 intro q hq
 rcases xw q hq with rfl | ⟨i,u,hi,hu,rfl⟩
 ·have hb:=hρ 0 (by generalize rs.length*(T+1)= z; omega)
  refine⟨by show b<_; generalize rs.length*(T+1)= z at hN; omega,⟨2,zC (rW rs T) (kC a T) rs.length⟩,?_,rfl,?_⟩
  ·show St.look σ.xW (ρ (b+0))= _;rw [hb,hl _ (by omega) (by generalize rs.length*(T+1)= z; omega)];unfold sE;rw [yZ,if_pos (by omega)]
  ·show dC _ _ _ (zC (rW rs T) (kC a T) rs.length) (zC (rW rs T) (kC b T) rs.length);unfold zC;refine tB λi hi=>⟨rfl,?_⟩;have hi':=ε.1 hi;have e0:=hk i 0 hi' (by omega);simp only [rW,tV,vw,e0.1,e0.2,and_true,true_and]
 ·have e0:=hk i u hi hu
  refine⟨e0.2,_,by show St.look σ.xW (ρ (kC b T i u))= _; rw [e0.1,hl _ (by unfold kC; omega) (nQ hi hu)]; exact ff hi hu,?_,?_⟩
  ·cases u <;> rfl
  ·cases u with
   | zero=> show dC _ _ _ (vQ A (λt=>kC a T i (t+1)) T) (vQ A (λt=>kC b T i (t+1)) T);unfold vQ;refine tB λt ht=>⟨rfl,?_⟩;have ht':=ε.1 ht;have e1:=hk i (t+1) hi (by omega);simp only [tV,vw,e1.1,e1.2,and_true,true_and]
   | succ t=>exact .same λr hr=>vK _ _ r hr
end Ru
theorem oh {rs:List xN} {A F T:Nat} (ok:lS rs A F T) (hA:0<A) (n:Nat) (xW:List (Nat × Ob)):xS prog 61 [.agg [.int .i64 A,.int .i64 F,.int .i64 T,.sl 2 (xK rs)]] ⟨n,xW⟩ (.agg [.int .i64 A,.int .i64 F,.int .i64 T,.yW n 2 rs.length]) ⟨n+(1+rs.length*(T+1)),sE n rs A T (rD rs)++ xW⟩:=by have h:=xS.own (σ:=⟨n,xW⟩) (We ok hA) rfl;simp only [D.shift,D.yJ,Nat.add_zero,nc] at h;exact h
namespace Ru
def uI (rs:List xN) (num:Nat->Nat × Nat->Int) (A T a w i t:Nat):List Int:=(List.range A).map λb=>if b<a\/(b=a/\i*T+t<w) then num b (i,t) else(rD rs i t).getD b 0
theorem fV (rs:List xN) (num:Nat->Nat × Nat->Int) (A T a w i t:Nat):(uI rs num A T a w i t).length=A:=by simp [uI]
theorem nq {rs:List xN} {num:Nat->Nat × Nat->Int} {A T i t:Nat} (h:(rD rs i t).length=A):rD rs i t=uI rs num A T 0 0 i t:=by refine ψ (by rw [fV,h]) λk h1 h2=>?_;simp [uI,List.getD,h1]
theorem dh {rs:List xN} {num:Nat->Nat × Nat->Int} {A T a n i t:Nat} (h:i*T+t<n):uI rs num A T a n i t=uI rs num A T (a+1) 0 i t:=by
 unfold uI;refine δ λb _=>?_
 by_cases e:b<a+1
 ·rw [if_pos (by omega),if_pos (.inl e)]
 ·rw [if_neg (by omega),if_neg (by omega)]
theorem dp {rs:List xN} {num:Nat->Nat × Nat->Int} {A T a w i t:Nat} (h:i*T+t=w):(uI rs num A T a w i t).set a (num a (i,t))= uI rs num A T a (w+1) i t:=by
 refine ψ (by simp [uI]) λk h1 h2=>?_;rw [List.getElem_set];simp only [uI,List.getElem_map,List.getElem_range]
 by_cases e:a=k
 ·subst e; rw [if_pos rfl,if_pos (by omega)]
 ·rw [if_neg e]
  by_cases hk:k<a
  ·rw [if_pos (by omega),if_pos (by omega)]
  ·rw [if_neg (by omega),if_neg (by omega)]
theorem Yx {rs:List xN} {num:Nat->Nat × Nat->Int} {A T a w i t:Nat} (h:i*T+t≠w):uI rs num A T a w i t=uI rs num A T a (w+1) i t:=by
 unfold uI;refine δ λb _=>?_
 by_cases e:b<a\/(b=a/\i*T+t<w)
 ·rw [if_pos e,if_pos (by omega)]
 ·rw [if_neg e,if_neg (by omega)]
theorem dn (rs:List xN) (num:Nat->Nat × Nat->Int) (A T i t:Nat):uI rs num A T A 0 i t=(List.range A).map λa=>num a (i,t):=by unfold uI;refine δ λb hb=>?_;rw [if_pos (.inl (ε.1 hb))]
def iy (rs:List xN) (A F T M:Nat) (v:Nat->Nat->List Int):List (Nat × Ob):=
 (2+M,⟨4,[[.int .i64 (A:Int),.int .i64 (F:Int),.int .i64 (T:Int),.yW 2 2 rs.length]]⟩) :: (2,⟨2,zC (rW rs T) (kC 2 T) rs.length⟩) :: (1,⟨4,[[.int .i64 0,.int .i64 0,.int .i64 0,.xZ]]⟩) ::
  (List.range rs.length).map λi=>(kC 2 T i 0,⟨1,rl ((List.range T).map (v i))⟩)
def VN (rs rs':List xN) (A F T M:Nat):List (Nat × Ob):=[(2+M,⟨4,[[.int .i64 (A:Int),.int .i64 (F:Int),.int .i64 (T:Int),.yW 2 2 rs.length]]⟩),(2,⟨2,xK rs'⟩),(1,⟨4,[[.int .i64 0,.int .i64 0,.int .i64 0,.xZ]]⟩)]
theorem Sm {C:Cx} {f:Fr} {rs:List xN} {A F T M nx:Nat} {v:Nat->Nat->List Int} {base xW:List (Nat × Ob)} (hI:GN (T+1) (rW rs T) (jd A T v) 2 (2+M) rs.length 2 (kC 2 T) base xW) (hc:C.n0=0) (hx:2+M<nx) (hM:1<=M) (hR:0<rs.length)
  (ho:St.look xW (2+M)= some ⟨4,[[.int .i64 (A:Int),.int .i64 (F:Int),.int .i64 (T:Int),.yW 2 2 rs.length]]⟩) (h1:St.look xW 1=some ⟨4,[[.int .i64 0,.int .i64 0,.int .i64 0,.xZ]]⟩)
  (hv:∀ i t,i<rs.length->t<T->(v i t).length=A) (h4:f.get 4 = .ref 1 4 0 0) (h5:f.get 5 = .ref (2+M) 4 0 0):yO C f ⟨nx,xW⟩ [(4,.ref 1 4 0 0),(5,.ref (2+M) 4 0 0)] ⟨nx,iy rs A F T M v⟩:=by
 have lr:=hI.lr;rw [yQ (by rw [tP]; exact hR)] at lr
 have hk0:∀ i,i<rs.length->2<kC 2 T i 0/\kC 2 T i 0<2+M:=λi hi=>by have:=hI.le i 0 hi (by omega);unfold kC at *;omega
 refine yO.view (λk=>k) (by rw [hc]; exact Ab _) (λ_ _=>rfl) ?_ ?_ (λp _ q _ e=>e)
 ·simp only [xd,vw,h4,h5];exact⟨⟨by omega,trivial⟩,⟨by omega,trivial⟩,trivial⟩
 ·intro p hp;simp only [iy,μ,List.mem_map,ε] at hp
  rcases hp with rfl | rfl | rfl | ⟨i,hi,rfl⟩
  ·refine⟨by show 2+M<nx; omega,_,ho,rfl,.cons rfl ?_ .nil⟩;simp only [tV,vw,and_true,true_and];omega
  ·refine⟨by show 2<nx; omega,_,lr,rfl,?_⟩;unfold zC;refine tB λi hi=>⟨rfl,?_⟩;have:=hk0 i (ε.1 hi);simp only [rW,tV,vw,and_true,true_and];omega
  ·exact⟨by show 1<nx; omega,_,h1,rfl,.same (by simp [D.xT,D.xJ])⟩
  ·obtain⟨a,b,c,d⟩:=hI.le i 0 hi (by omega);refine⟨by show kC 2 T i 0<nx; omega,_,d,rfl,?_⟩;show dC _ _ _ (vQ A (λt=>kC 2 T i (t+1)) T) (rl ((List.range T).map (v i)));unfold rl vQ;rw [ν];refine tB λt ht=>⟨rfl,?_⟩;have ht':=ε.1 ht;obtain⟨a',b',c',d'⟩:=hI.le i (t+1) hi (by omega);simp only [Function.comp,tV,vw,and_true]
   refine⟨trivial,by decide,λq hq=>?_,_,d',rfl,?_,?_,vK _ _⟩
   ·simp only [iy,μ,List.mem_map,ε] at hq
    rcases hq with rfl | rfl | rfl | ⟨j,hj,rfl⟩
    ·show 2+M≠kC 2 T i (t+1); omega
    ·exact λe=>c' e.symm
    ·show 1≠kC 2 T i (t+1); omega
    ·intro e;have:=(hI.di j i 0 (t+1) hj hi (by omega) (by omega) e).2;omega
   ·show A<=(rows .i64 (v i t)).length;rw [xF,hv i t hi ht']; exact Ac _
   ·exact(uH (by rw [xF,hv i t hi ht'])).symm
theorem Sn {C:Cx} {rs rs':List xN} {A F T M nx:Nat} {v:Nat->Nat->List Int} (hc:C.n0=0) (hx:2+M<nx) (hM:1+rs.length*(T+1)= M)
  (hT:∀ i,i<rs.length->(rl ((List.range T).map (v i))).length=T)
  (hr:rs'=(List.range rs.length).map λi=>⟨(List.range T).map (v i),(rs.getD i yF).zM⟩):yO C [(4,.ref 1 4 0 0),(5,.ref (2+M) 4 0 0)] ⟨nx,iy rs A F T M v⟩ [(4,.ref 1 4 0 0),(5,.ref (2+M) 4 0 0)] ⟨nx,VN rs rs' A F T M⟩:=by
 have hk0:∀ i,i<rs.length->2<kC 2 T i 0/\kC 2 T i 0<2+M:=λi hi=>by have:=@nQ 2 T i 0 rs.length hi (by omega);rw [hM] at this;refine⟨?_,this⟩;unfold kC;omega
 refine yO.view (λk=>k) (by rw [hc]; exact Ab _) (λ_ _=>rfl) ?_ ?_ (λp _ q _ e=>e)
 ·simp only [xd,vw,Fr.get,reduceIte,Nat.reduceEqDiff];exact⟨⟨by omega,trivial⟩,⟨by omega,trivial⟩,trivial⟩
 ·intro p hp;have hM1:1<=M:=by omega
  simp only [VN,μ,υ,or_false] at hp
  rcases hp with rfl | rfl | rfl
  ·refine⟨by show 2+M<nx; omega,_,by show St.look (iy rs A F T M v) (2+M)= _; unfold iy; rw [yZ,if_pos rfl],rfl,.cons rfl ?_ .nil⟩;simp only [tV,vw,and_true,true_and];omega
  ·have e:St.look (iy rs A F T M v) 2=some ⟨2,zC (rW rs T) (kC 2 T) rs.length⟩:=by unfold iy; rw [xU (by omega),yZ,if_pos rfl]
   refine⟨by show 2<nx; omega,_,e,rfl,?_⟩;show dC _ _ _ (zC (rW rs T) (kC 2 T) rs.length) (xK rs');rw [hr];unfold zC xK;rw [ν];refine tB λi hi=>⟨rfl,?_⟩;have hi':=ε.1 hi;have hki:=hk0 i hi'
   have hl:St.look (iy rs A F T M v) (kC 2 T i 0)= some ⟨1,rl ((List.range T).map (v i))⟩:=by unfold iy;rw [xU (by omega),xU (by omega),xU (by omega)];exact fH (k:=λi=>kC 2 T i 0) (o:=λi=>⟨1,rl ((List.range T).map (v i))⟩) hi λj hj e=>(fq (T:=T) (t:=0) (u:=0) (by omega) (by omega) (by unfold kC at e; omega)).1
   have hh:=hT i hi';simp only [rW,Function.comp,xN.row,tV,vw,and_true,true_and]
   refine⟨by decide,λq hq=>?_,_,hl,rfl,?_,?_,lC _⟩
   ·simp only [VN,μ,υ,or_false] at hq
    rcases hq with rfl | rfl | rfl
    ·show 2+M≠kC 2 T i 0; omega
    ·show 2≠kC 2 T i 0; omega
    ·show 1≠kC 2 T i 0; omega
   ·show T<=(rl _).length;rw [hh]; exact Ac _
   ·exact(uH hh.symm).symm
  ·have e:St.look (iy rs A F T M v) 1=some ⟨4,[[.int .i64 0,.int .i64 0,.int .i64 0,.xZ]]⟩:=by unfold iy; rw [xU (by omega),xU (by omega)]; rfl
   exact⟨by show 1<nx; omega,_,e,rfl,.same (by simp [D.xT,D.xJ])⟩
end Ru
end Go.Pd
