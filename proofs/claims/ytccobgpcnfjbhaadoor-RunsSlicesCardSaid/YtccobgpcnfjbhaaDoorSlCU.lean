/- Part CU. -/
import Derived.Test.YtccobgpcnfjbhaaDoorSlRA
import Derived.Test.YtccobgpcnfjbhaaDoorSlXG
set_option linter.unusedSectionVars false
set_option linter.unusedVariables false
set_option linter.unusedSimpArgs false
set_option linter.defProp false
set_option maxRecDepth 20000
set_option maxHeartbeats 1000000
open Go.Proofs.Tryd
open List renaming length_take->γ,take_of_length_le->δ,any_eq_false->ε,any_eq_true->ζ
namespace Go.Pd
open Go Go.Proofs
open BitVec renaming isValue -> ZA
open Ru
theorem rJ {k:Nat} (h:k<=1000000000):IntKind.i64.wrap ((k:Int)+ 1)= ((k+1:Nat):Int):=by rw [wrap_i64 (by omega)]; rfl
theorem ti (l:List xG) (r:xG):yL l ++ [[.sl 1 (rl r.loc),.sl 1 (us r.sK)]]=yL (l ++ [r]):=by simp [yL,xG.row]
theorem sS (l:List xG):vZ (yL l):=tg l
theorem nk : yL [] = []:=rfl
theorem vi {rs:List xG} {A F T:Nat} (ok:ew rs A F T):uA ⟨A,F,T,rs⟩= 0:=by
 obtain⟨h1,h2,h3,h4,h5,h6,h7,h8,h9⟩:=ok;unfold uA;simp only;have hp:((rs.length*T:Nat):Int)<=512:=by omega
 rw [Int.natCast_mul] at hp
 rw [if_neg (by omega),if_neg (by omega),if_neg (by omega),if_neg,if_neg]
 ·rw [Bool.not_eq_true,ε];intro r hr;simp only [lW,Int.toNat_natCast,ζ,not_exists,not_and];intro f hf;simp [h9 r hr f hf]
 ·rw [Bool.not_eq_true,ε];intro r hr;have hrow:=h8 r hr;simp only [uQ,h6 r hr,h7 r hr,decide_true,Bool.not_true,Bool.false_or,ζ,not_exists,not_and];intro l hl;simp [hrow l hl]
theorem fy {c:List (BitVec 64)} (hc:c.length<=1000) (h0:0<c.length):wP prog 22 [.sl 1 (us c)] (.sl 1 (us c)):=by
 obtain⟨x,l,rfl⟩:∃ x l,c=x :: l:=by
  cases c with
  | nil=>simp at h0
  | cons x l=>exact⟨x,l,rfl⟩
 refine wZ func22 YJ λhf=>?_;have hl:(us (x :: l)).length=l.length+1:=by simp [us]
 have h1:=pc (x :: l);have e:us (x :: l)= [.int .u64 (ui x)] :: us l:=rfl;simp only [List.length_cons] at hc;rw [e] at hl h1 ⊢;refine yF ?_;refine⟨by simp,h1,by omega,by omega,.drop (by simp) ?_⟩;have hp:=eL (x :: l);rw [e] at hp;have ht:([D.int .u64 (ui x)] :: us l).take (l.length+1)= [D.int .u64 (ui x)] :: us l:=by rw [<- hl,List.take_length]
 simp only [vw];exact⟨trivial,by decide,by simp,⟨1,[D.int .u64 (ui x)] :: us l⟩,rfl,rfl,by simp only; omega,ht.symm,hp⟩
theorem wx {c:List Int} (hne:c ≠ []) (hl:c.length<=1000):xS prog 23 [.sl 1 (rows .i64 c)] hU (.zZ 0 1 c.length) ⟨1,[(0,⟨1,rows .i64 c⟩)]⟩:=by
 match c,hne with
 | x :: l,_=>
  refine wZ func23 e8 λhf=>?_;have hl':l.length<=999:=by simp at hl; omega
  refine yF ?_;refine⟨by simp,fW .i64 (x :: l),by omega,by omega,nW.name (n:=0) (by simp) (uL .i64 (x :: l)) (by simp [vw])⟩
theorem wy : wP prog 23 [.sl 1 []] (.sl 1 []):=by
 refine xS.bd ?_ ?_
 ·refine wZ func23 e8 λhf=>?_;refine yF ?_;exact .dv
 ·refine wZ func23 e8 λhf=>?_;refine rZ ?_;exact .drop (by simp) (bG (by simp) (by intro _ h; cases h) rfl)
theorem af {c:List Int} (hl:c.length<=1000):wP prog 23 [.sl 1 (rows .i64 c)] (.sl 1 (rows .i64 c)):=by
 by_cases h:c = []
 ·subst h; exact wy
 ·exact(wx h hl).ret (.drop (by simp [hU]) (bG (by simp) (uL _ _) (by rw [wF])))
theorem j4 {rs:List xG} {A F T:Nat} (ok:ew rs A F T) {n:Nat} (h1:1<=n) (hn:n<=T):wP prog 9 [sD A F T rs,.int .i64 n] (.yN [sD A F n (pT rs n),.int .i64 0]):=by
 have hC:=kE ⟨A,F,T,rs⟩;rw [vi ok] at hC;have hT:=ok.hT;have hR:=ok.hR;have hA:=ok.hA;have q1:¬ (n:Int)<1:=by omega
 have q2:¬ (T:Int)<(n:Int):=by omega
 have hlc:=ok.loc;have hfc:=ok.sK;have hrw:=ok.row;have hcl:=mM rs n;have hcg:=λi h=>@iV rs n i h;unfold sD;unfold vT.d vT.cells at hC;simp only at hC;generalize pT rs n=S at *;refine wZ func9 k9 λhf=>?_;refine rZ ?_;refine .go (cq hC) ?_;refine cP q1 q2 ?_
 refine xL (λi:Nat=>[(37,.int .i64 i),(36,.int .i64 rs.length),(35,.sl 2 (yL rs)),(7,.ref 2 4 0 0),(4,.ref 1 4 0 0),(1,.int .i64 n)])
  (λi=>⟨4,xN 3 2 (yL (S.take i))++ [(2,⟨4,[[.int .i64 A,.int .i64 F,.int .i64 n,xI 3 2 (yL (S.take i))]]⟩),(1,⟨4,[[.int .i64 0,.int .i64 0,.int .i64 0,.xY]]⟩)]⟩) (λi=>i<=rs.length) (λi=>rs.length-i) 0 (Nat.zero_le _) ?_ ?_
 ·(refine kQ [] [2,1] ?_; simp only [vS,zQ,simprocAttr,-ZA,exists_eq_left',ne_eq,zR,List.take_zero,nk,wM,wN,List.nil_append,xV])
 intro i hi;refine yW mixed ?_;by_cases hil:i<rs.length
 case neg=>
  have hd:¬ ((i:Int)<(rs.length:Int)):=by omega
  rw [δ (show S.length<=i by omega)];refine mD hd ?_
  (refine nW.fc [] [] (by simp) (by simp) (by decide) ?_; simp only [vS,zQ,simprocAttr,-ZA,exists_eq_left',ne_eq,zR,sS])
 have hd:((i:Int)<(rs.length:Int)):=by omega
 have hg:=uV rs hil;have hm:=zF (d:=vH) hil;have hl1:=hlc _ hm;have hl2:=hfc _ hm;have hl3:=hrw _ hm;have hSs:=tJ (d:=vH) (show i<S.length by omega);rw [hcg i hil] at hSs;have hSl2:(S.take i).length=i:=by rw [γ]; omega
 generalize rs.getD i vH=r at *;obtain⟨loc,sK⟩:=r;unfold xG.row at hg;simp only at hg hl1 hl2 hl3 hSs;have hcu:=fy (c:=sK.take n) (by rw [γ]; omega) (by rw [γ]; omega);have hci:=λj (hj:j<loc.length)=>af (c:=loc.getD j []) (by rw [hl3 _ (zF hj)]; omega);have hnl:n<=loc.length:=by omega
 have hnf:n<=sK.length:=by omega
 have hlt:(loc.take n).length=n:=by rw [γ]; omega
 have hgt:∀ j,j<n->(loc.take n).getD j []=loc.getD j []:=λj hj=>by simp [List.getD,List.getElem?_take,hj]
 generalize S.take i=S0 at *;refine fF hd xV hg ?_;refine⟨0,n,rfl,rfl,by omega,by omega,by omega,?_⟩;refine yF ?_;refine .go (cr hcu) ?_;refine rZ ?_;refine⟨0,n,rfl,rfl,by omega,by omega,by rw [yR]; omega,?_⟩;refine rZ ?_;have e50:(rl loc).take n=rl (loc.take n):=by simp [rl,List.map_take]
 have hLs:=λj (hj:j<n)=>tJ (l:=loc.take n) (d:=[]) (show j<_ by omega);have hsn:=ti S0 ⟨loc.take n,sK.take n⟩;simp only at hsn;rw [e50];generalize sK.take n=FC at *;generalize loc.take n=LC at *
 refine oP (λj:Nat=>[(52,.int .i64 j),(51,.int .i64 n),(50,.sl 1 (rl LC)),(37,.int .i64 i),(36,.int .i64 rs.length),(35,.sl 2 (yL rs)),(10,.ref 5 2 0 0),(7,.ref 2 4 0 0),(4,.ref 1 4 0 0),(1,.int .i64 n)])
  (λj=>⟨7,xN 6 1 (rl (LC.take j))++ ((5,⟨2,[[xI 6 1 (rl (LC.take j)),.sl 1 (us FC)]]⟩) :: (xN 3 2 (yL S0)++ [(2,⟨4,[[.int .i64 A,.int .i64 F,.int .i64 n,xI 3 2 (yL S0)]]⟩),(1,⟨4,[[.int .i64 0,.int .i64 0,.int .i64 0,.xY]]⟩)]))⟩) (λj=>j<=n) (λj=>n-j) 0 (Nat.zero_le _) ?_ ?_
 ·(refine kQ [] [5,3,2,1] ?_; simp only [vS,zQ,simprocAttr,-ZA,exists_eq_left',ne_eq,zR,List.take_zero,bc,wM,wN,List.nil_append,sS,yR,hlt])
 intro j hj;refine yW mixed ?_;by_cases hjl:j<n
 case neg=>
  have hd2:¬ ((j:Int)<(n:Int)):=by omega
  rw [δ (show LC.length<=j by omega)];refine wL hd2 ?_
  refine .go [(37,.int .i64 i),(36,.int .i64 rs.length),(35,.sl 2 (yL rs)),(10,.ref 5 2 0 0),(7,.ref 2 4 0 0),(4,.ref 1 4 0 0),(1,.int .i64 n)]
   ⟨6,(5,⟨2,[[.sl 1 (rl LC),.sl 1 (us FC)]]⟩) :: (xN 3 2 (yL S0)++ [(2,⟨4,[[.int .i64 A,.int .i64 F,.int .i64 n,xI 3 2 (yL S0)]]⟩),(1,⟨4,[[.int .i64 0,.int .i64 0,.int .i64 0,.xY]]⟩)])⟩ ?_ ?_
  ·exact qf [] [5,3,2,1] sS bM
  refine cP xV hSl2 ?_;refine⟨i+1,by omega,?_,by omega⟩;rw [hSs];exact qf [(3,7)] [3,2,1] hsn sS
 have hd2:((j:Int)<(n:Int)):=by omega
 have hgj:=lU LC (show j<_ by omega);have hLs:=hLs j hjl;have hll:(LC.take j).length=j:=by rw [γ]; omega
 have hci:=hci j (by omega);rw [<- hgt j hjl] at hci;generalize LC.getD j []=l at *;generalize LC.take j=L0 at *;simp only [simprocAttr,-ZA,↓zU,↓zD,zV,zT,zW,↓bW,↓cF,↓cG,hd2,yR,hlt,hgj]
 (repeat refine sd ?_)
 refine .go (cr hci) ?_;simp only [simprocAttr,-ZA,↓zU,↓zD,zV,zT,zW,↓bW,↓cF,↓cG,yR,hll]
 (repeat refine sd ?_)
 refine⟨j+1,by omega,?_,by omega⟩;rw [hLs];exact cn [(6,8)] [6,5,3,2,1] iw sS bM
end Go.Pd
