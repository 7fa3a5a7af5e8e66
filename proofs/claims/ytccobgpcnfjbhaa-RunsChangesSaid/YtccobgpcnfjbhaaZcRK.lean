/- Part RK. -/
import Derived.Test.YtccobgpcnfjbhaaZcSQ
import Derived.Test.YtccobgpcnfjbhaaZcX9
import Derived.Test.YtccobgpcnfjbhaaZcSM
set_option linter.unusedSectionVars false
set_option linter.unusedVariables false
set_option linter.unusedSimpArgs false
set_option linter.defProp false
set_option maxRecDepth 20000
set_option maxHeartbeats 1000000
open Go.Proofs.Try
open Nat renaming zero_le->γ,not_lt_zero->δ,le_refl->ε
open List renaming take_of_length_le->ζ,length_take->η,drop_eq_nil_of_le->θ,length_append->μ
namespace Go.Pd
open Go Go.Proofs
open BitVec renaming isValue -> ZA
open Ru
theorem ji (a b:List Int):yA prog 138 [.sl 1 (rows .i64 a),.sl 1 (rows .i64 b)] (.bool (decide (kc a b<0))):=by
 refine zL func138 WL λhf=>?_;simp only [D.uK,D.fact,xF] at hf;have hlen:=hf.1.1;by_cases h0:a.length=b.length
 case neg=>
  have q:((a.length:Int) != (b.length:Int))= true:=by simp; omega
  by_cases h1:a.length<b.length
  ·have h1':(a.length:Int)<(b.length:Int):=by omega
   rw [show kc a b = -1 by unfold kc; rw [if_pos h1]];refine cX xF q h1' ?_;exact .same
  ·have h1':¬ (a.length:Int)<(b.length:Int):=by omega
   rw [show kc a b=1 by unfold kc; rw [if_neg h1,if_pos (by omega)]];refine cX xF q h1' ?_;exact .same
 have q:((a.length:Int) != (b.length:Int))= false:=by rw [h0]; simp
 have he:kc a b=uV a b:=by unfold kc; rw [if_neg (by omega),if_neg (by omega)]
 rw [he];refine uA xF q ?_
 refine xO (λk:Nat=>[(5,.int .i64 k),(1,.sl 1 (rows .i64 b)),(0,.sl 1 (rows .i64 a))]) (λ_=>⟨0,[]⟩) (λk=>k<=a.length/\uV a b=uV (a.drop k) (b.drop k)) (λk=>a.length-k) 0 ⟨γ _,rfl⟩ ?_ ?_
 ·exact wI
 intro k ⟨hk,hi⟩;refine xE mixed ?_
 by_cases h:k<a.length
 ·have hd:((k:Int)<(a.length:Int)):=by omega
  have hd2:((k:Int)<(b.length:Int)):=by omega
  rw [drop_cons (d:=0) h,drop_cons (d:=0) (show k<b.length by omega),bK] at hi;have g1:=yU .i64 a h;have g2:=yU .i64 b (show k<b.length by omega);generalize a.getD k 0=x at hi g1;generalize b.getD k 0=y at hi g2
  by_cases c1:x<y
  ·have c0:(x != y)= true:=by simp; omega
   rw [if_pos c1] at hi;rw [hi];refine p7 xF hd hd2 g1 g2 c0 c1 ?_;exact .same
  ·by_cases c2:y<x
   ·have c0:(x != y)= true:=by simp; omega
    rw [if_neg c1,if_pos c2] at hi;rw [hi];refine p7 xF hd hd2 g1 g2 c0 c1 ?_;exact .same
   ·have c0:(x != y)= false:=by simp; omega
    rw [if_neg c1,if_neg c2] at hi;refine p6 xF hd hd2 g1 g2 c0 ?_;refine⟨k+1,⟨by omega,hi⟩,?_,by omega⟩;exact sW
 ·have hd:¬ ((k:Int)<(a.length:Int)):=by omega
  rw [θ (show a.length<=k by omega),θ (show b.length<=k by omega)] at hi;rw [hi];refine uA xF hd ?_;exact .same
namespace Ru
def tQ (l:List (List Int)):Nat->List (List Int)
 | 0=>[]
 | k+1=>if (tQ l k).any (λy=>decide (y=l.getD k []))= true then tQ l k else tQ l k ++ [l.getD k []]
def p9 (l:List (List Int)):List (List Int):=tQ l l.length
theorem fA {l:List (List Int)}:∀ {k:Nat},(tQ l k).length<=k
 | 0=>ε _
 | k+1=>by
  have:=@fA l k;unfold tQ
  split
  ·omega
  ·rw [μ,List.length_singleton]; omega
def pU (d:List (List Int)) (x:List Int) (k:Nat):Nat:=((d.take k).filter λy=>decide (kc y x<0)).length
end Ru
theorem Yl (keys:List (List Int)) (hl:keys.length<=1000) (hne:0<keys.length):xS prog 111 [.sl 1 (rl keys)] mR (.yW 0 1 keys.length) ⟨1,[(0,⟨1,rows .i64 (keys.map λx=>((pU (p9 keys) x (p9 keys).length:Nat):Int))⟩)]⟩:=by
 have hB:=λa b=>ji a b;refine zL func111 WD λhf=>?_;refine wU ?_
 refine xO (λi:Nat=>[(4,.int .i64 i),(3,xI 0 1 (rl (tQ keys i))),(0,.sl 1 (rl keys))]) (λi=>⟨1,xM 0 1 (rl (tQ keys i))⟩) (λi=>i<=keys.length) (λi=>keys.length-i) 0 (γ _) ?_ ?_
 ·(refine lP [] [0] ?_; simp only [vX,zQ,simprocAttr,-ZA,exists_eq_left',ne_eq,zR,tQ,ug,wK,wL])
 intro i hi;refine xE mixed ?_;by_cases hil:i<keys.length
 case pos=>
  have hd:((i:Int)<(keys.length:Int)):=by omega
  have hg:=wG keys hil;have hs:tQ keys (i+1)= if (tQ keys i).any (λy=>decide (y=keys.getD i []))= true then tQ keys i else tQ keys i ++ [keys.getD i []]:=rfl;have hDl:=@fA keys i;generalize tQ keys i=E at *;generalize keys.getD i []=x at *;refine uA hd xP ?_
  refine xO (λk:Nat=>[(6,.int .i64 k),(5,.bool ((E.take k).any λy=>decide (y=x))),(4,.int .i64 i),(3,xI 0 1 (rl E)),(0,.sl 1 (rl keys))]) (λ_=>⟨1,xM 0 1 (rl E)⟩) (λk=>k<=E.length) (λk=>E.length-k) 0 (γ _) ?_ ?_
  ·(refine lP [] [0] ?_; simp only [vX,zQ,simprocAttr,-ZA,exists_eq_left',ne_eq,zR,List.take_zero,List.any_nil,uS])
  intro k hk;refine xE mixed ?_;by_cases hkl:k<E.length
  case pos=>
   have hd2:((k:Int)<(E.length:Int)):=by omega
   have hgk:=wG E hkl;have hts:(E.take (k+1)).any (λy=>decide (y=x))= ((E.take k).any (λy=>decide (y=x)) || decide (E.getD k []=x)):=by rw [yD (d:=[]) hkl]; simp
   have b1:=hB x (E.getD k []);have b2:=hB (E.getD k []) x;generalize (E.take k).any (λy=>decide (y=x))= fo at *;generalize hy:E.getD k []=y at *
   cases fo with
   | true=> rw [Bool.true_or] at hts;refine iM hd2 xP hd hg hgk ?_;refine⟨k+1,by omega,?_,by omega⟩;rw [hts];exact sW
   | false=>
    rw [Bool.false_or] at hts
    by_cases c1:kc x y<0
    ·have e:decide (y=x)= false:=decide_eq_false λe=>by rw [e,gY] at c1; omega
     rw [e] at hts;rw [decide_eq_true c1] at b1;refine iM hd2 xP hd hg hgk ?_;refine .go (cr b1) ?_;refine uB ?_;refine⟨k+1,by omega,?_,by omega⟩;rw [hts];exact sW
    ·rw [decide_eq_false c1] at b1
     have e:decide (y=x)= !decide (kc y x<0):=by
      by_cases c2:kc y x<0
      ·rw [decide_eq_true c2,Bool.not_true];exact decide_eq_false λe=>by rw [e,gY] at c2; omega
      ·rw [decide_eq_false c2,Bool.not_false];have:=oV x y;exact decide_eq_true (gX (by omega)).symm
     rw [e] at hts;refine iM hd2 xP hd hg hgk ?_;refine .go (cr b1) ?_;refine iM hd2 xP hd hg hgk ?_;refine .go (cr b2) ?_;refine uB ?_;refine⟨k+1,by omega,?_,by omega⟩;rw [hts];exact sW
  have hd2:¬ ((k:Int)<(E.length:Int)):=by omega
  rw [ζ (by omega)]
  cases hfo:E.any λy=>decide (y=x) with
  | true=> rw [hfo,if_pos rfl] at hs;refine lR hd2 xP ?_;refine⟨i+1,by omega,?_,by omega⟩;rw [hs];exact sW
  | false=> rw [hfo,if_neg (by simp)] at hs;refine uv hd2 xP hd hg ?_;refine⟨i+1,by omega,?_,by omega⟩;rw [hs];exact cY [(0,2)] [0] qM uS
 have hd:¬ ((i:Int)<(keys.length:Int)):=by omega
 obtain rfl:i=keys.length:=by omega
 rw [show tQ keys keys.length=p9 keys from rfl];have hDl:(p9 keys).length<=keys.length:=fA;generalize p9 keys=E at *;refine uA hd xP ?_
 refine xO (λi:Nat=>[(8,.int .i64 i),(7,xI 1 1 (rows .i64 ((keys.take i).map λx=>((pU E x E.length:Nat):Int)))),(3,xI 0 1 (rl E)),(0,.sl 1 (rl keys))])
  (λi=>⟨2,xM 1 1 (rows .i64 ((keys.take i).map λx=>((pU E x E.length:Nat):Int)))++ xM 0 1 (rl E)⟩) (λi=>i<=keys.length) (λi=>keys.length-i) 0 (γ _) ?_ ?_
 ·(refine lP [] [0] ?_; simp only [vX,zQ,simprocAttr,-ZA,exists_eq_left',ne_eq,zR,List.take_zero,List.map_nil,pI,wK,wL,List.nil_append,uS])
 clear hd hil hi;intro i hi;refine xE mixed ?_;by_cases hil:i<keys.length
 case neg=>
  have hd:¬ ((i:Int)<(keys.length:Int)):=by omega
  rw [ζ (by omega)];have hml:(rows .i64 (keys.map λx=>((pU E x E.length:Nat):Int))).length=keys.length:=by rw [xF,List.length_map]
  generalize keys.map (λx=>((pU E x E.length:Nat):Int))= M at *
  have hgM:xI 1 1 (rows .i64 M)= .yW 1 1 keys.length:=by
   match hM:rows .i64 M with
   | []=>rw [hM] at hml; simp at hml; omega
   | e :: r=>rw [hM] at hml; rw [<- hml]; rfl
  have hgG:zN 1 (rows .i64 M)= some ⟨1,rows .i64 M⟩:=by
   match hM:rows .i64 M with
   | []=>rw [hM] at hml; simp at hml; omega
   | e :: r=>rfl
  refine cX hd xP hgM ?_
  (refine rT.uz [(0,1)] [0] (by simp) (by simp) (by decide) ?_; simp only [vX,zQ,simprocAttr,-ZA,exists_eq_left',ne_eq,zR,vD])
  exact⟨_,hgG,rfl,by simp only [fZ,vD]⟩
 have hd:((i:Int)<(keys.length:Int)):=by omega
 have hg:=wG keys hil;have hs:(keys.take (i+1)).map (λx=>((pU E x E.length:Nat):Int))= (keys.take i).map (λx=>((pU E x E.length:Nat):Int))++ [((pU E (keys.getD i []) E.length:Nat):Int)]:=by rw [yD (d:=[]) hil,List.map_append]; rfl
 have hml:((keys.take i).map λx=>((pU E x E.length:Nat):Int)).length=i:=by rw [List.length_map,η]; omega
 generalize (keys.take i).map (λx=>((pU E x E.length:Nat):Int))= M at *;generalize keys.getD i []=x at *;refine uA hd xP ?_
 refine xO (λk:Nat=>[(10,.int .i64 k),(9,.int .i64 (pU E x k:Nat)),(8,.int .i64 i),(7,xI 1 1 (rows .i64 M)),(3,xI 0 1 (rl E)),(0,.sl 1 (rl keys))]) (λ_=>⟨2,xM 1 1 (rows .i64 M)++ xM 0 1 (rl E)⟩) (λk=>k<=E.length) (λk=>E.length-k) 0 (γ _) ?_ ?_
 ·exact sW
 intro k hk;refine xE mixed ?_;by_cases hkl:k<E.length
 case neg=>
  have hd2:¬ ((k:Int)<(E.length:Int)):=by omega
  obtain rfl:k=E.length:=by omega
  refine uv hd2 xP xF hml ?_;refine⟨i+1,by omega,?_,by omega⟩;rw [hs];exact cY [(1,2)] [1,0] uS vD
 have hd2:((k:Int)<(E.length:Int)):=by omega
 have hgk:=wG E hkl
 have hck:pU E x (k+1)= pU E x k+if kc (E.getD k []) x<0 then 1 else 0:=by
  unfold pU;rw [yD (d:=[]) hkl,List.filter_append,μ];generalize E.getD k []=y;congr 1
  by_cases c:kc y x<0
  ·rw [if_pos c]; simp [List.filter,c]
  ·rw [if_neg c]; simp [List.filter,c]
 have hcl:pU E x k<=k:=by unfold pU;exact Nat.le_trans (List.length_filter_le _ _) (by rw [η]; omega)
 have b1:=hB (E.getD k []) x;generalize E.getD k []=y at *;generalize pU E x k=n at *
 by_cases c:kc y x<0
 ·rw [if_pos c] at hck;rw [decide_eq_true c] at b1;refine iM hd2 xP hd hg hgk ?_;refine .go (cr b1) ?_;refine wU ?_;refine⟨k+1,by omega,?_,by omega⟩;rw [hck]
  (refine yO.same ?_; simp only [wZ,Fr.get,simprocAttr,-ZA,zS])
  exact⟨wrap_i64 (by omega),wrap_i64 (by omega)⟩
 ·rw [if_neg c,Nat.add_zero] at hck;rw [decide_eq_false c] at b1;refine iM hd2 xP hd hg hgk ?_;refine .go (cr b1) ?_;refine wU ?_;refine⟨k+1,by omega,?_,by omega⟩;rw [hck]
  (refine yO.same ?_; simp only [wZ,Fr.get,simprocAttr,-ZA,zS])
  exact⟨wrap_i64 (by omega),rfl⟩
open Ru
theorem ot {rs:List xN} {A F T:Nat} (ok:lS rs A F T) {a:Nat} (ha:a<A) {p:Nat × Nat} (hp:p.1<rs.length/\p.2<T):yA prog 110 [sD A F T rs,.int .i64 a,.agg [.int .i64 (p.1:Int),.int .i64 (p.2:Int)]] (.int .i64 (iH rs a p)):=by
 have hm:=yX (d:=yF) hp.1;have hg:=wE rs hp.1;have h1:=ok.loc _ hm;have h2:=ok.row _ hm _ (yX (d:=[]) (show p.2<(rs.getD p.1 yF).loc.length by omega));unfold iH sD;generalize rs.getD p.1 yF=r at hg h1 h2;have hg2:=wG r.loc (show p.2<r.loc.length by omega);generalize r.loc.getD p.2 []=x at hg2 h2;have hg3:=yU .i64 x (show a<x.length by omega);refine zL func110 WC λhf=>?_;simp only [simprocAttr,-ZA,↓zU,↓zD,zV,zT,zW,xV,hg,xN.row,xP,hg2,xF,hg3]
 (repeat refine sd ?_)
 exact .dv
theorem iV (s:wQ):yA prog 108 [s.d] (.sl 2 (mT (kJ s))):=by
 have hD:s.d = .agg [.int .i64 s.ag,.int .i64 s.fa,.int .i64 s.ln,.sl 2 (xK s.rs)]:=rfl;have hC:=uR s;rw [hD] at hC ⊢;refine zL func108 WA λhf=>?_;refine uB ?_;refine .go (cq hC) ?_;by_cases hz:uJ s=0
 case neg=>
  have e:(uJ s != 0)= true:=by simpa using hz
  rw [show kJ s = [] by unfold kJ; rw [if_pos hz]];refine vY e ?_;exact .drop (by simp) (by simp [vw,mT])
 have e:(uJ s != 0)= false:=by simpa using hz
 obtain⟨A,F,T,ok⟩:=eY hz;rw [po ok hz];obtain⟨T1,T16⟩:=ok.hT;obtain⟨R1,R64⟩:=ok.hR;simp only [simprocAttr,-ZA,↓zU,↓zD,zV,zT,zW,e,ok.ln,ok.ag,ok.fa,xV]
 refine xO (λr:Nat=>[(4,.int .i64 r),(3,xI 1 2 (mT (oE T (r*T)))),(1,.ref 0 4 0 0)]) (λr=>⟨2,xM 1 2 (mT (oE T (r*T)))++ [(0,⟨4,[[.int .i64 A,.int .i64 F,.int .i64 T,.sl 2 (xK s.rs)]]⟩)]⟩)
  (λr=>r<=s.rs.length) (λr=>s.rs.length-r) 0 (γ _) ?_ ?_
 ·rw [Nat.zero_mul]
  (refine lP [] [0] ?_; simp only [vX,zQ,simprocAttr,-ZA,exists_eq_left',ne_eq,zR,oE,List.range_zero,List.map_nil,pn,wK,wL,List.nil_append])
 intro r hr;refine xE mixed ?_;by_cases hrl:r<s.rs.length
 case neg=>
  have hd:¬ ((r:Int)<(s.rs.length:Int)):=by omega
  rw [show r=s.rs.length by omega] at hd ⊢;refine uA hd xV ?_;exact .drop (by simp) (lV (by decide) (fO _) (by simp [St.look,qI,xQ]))
 have hd:((r:Int)<(s.rs.length:Int)):=by omega
 refine uA hd xV ?_
 refine xO (λt:Nat=>[(5,.int .i64 t),(4,.int .i64 r),(3,xI 1 2 (mT (oE T (r*T+t)))),(1,.ref 0 4 0 0)]) (λt=>⟨2,xM 1 2 (mT (oE T (r*T+t)))++ [(0,⟨4,[[.int .i64 A,.int .i64 F,.int .i64 T,.sl 2 (xK s.rs)]]⟩)]⟩)
  (λt=>t<=T) (λt=>T-t) 0 (γ _) ?_ ?_
 ·rw [Nat.add_zero];exact aU [] [1,0] rG
 intro t ht;refine xE mixed ?_;by_cases htl:t<T
 case neg=>
  have hd2:¬ ((t:Int)<(T:Int)):=by omega
  have et:t=T:=by omega
  refine pZ hd2 ?_;refine⟨r+1,by omega,?_,by omega⟩;rw [show (r+1)* T=r*T+t by rw [Nat.add_mul,et]; omega];exact aU [] [1,0] rG
 have hd2:((t:Int)<(T:Int)):=by omega
 have hlen:r*T+t<1024:=by
  have:r*T<=64*16-16:=by have:=Nat.mul_le_mul (show r<=63 by omega) T16;omega
  omega
 have hS:=zj T r t htl;have hln:=hE T (r*T+t);have hw:IntKind.i64.wrap ((t:Int)+ 1)= ((t+1:Nat):Int):=wrap_i64 (by omega);generalize oE T (r*T+t)= l at hS hln;refine yz hd2 uC hln ?_;refine⟨t+1,by omega,?_,by omega⟩;rw [hS,zk];exact cY [(1,2)] [1,0] rG hw
theorem mw {r:xN} {T A:Nat} (hl:r.loc.length=T) (hT:T<=16) (hA:A<=4) (hff:r.zM.length=T) (hr:∀ l ∈ r.loc,l.length=A):yA prog 62 [.agg [.sl 1 (rl r.loc),.sl 1 (us r.zM)],.agg [.sl 1 (rl r.loc),.sl 1 (us r.zM)]] (.bool true):=by
 have b1:((T:Int) != (T:Int))= false:=by simp
 refine zL func62 Se λhf=>?_;refine iM xP zB hl hff b1 ?_
 refine xO (λk:Nat=>[(5,.int .i64 k),(3,.ref 1 2 0 0),(2,.ref 0 2 0 0)]) (λ_=>⟨2,[(1,⟨2,[[.sl 1 (rl r.loc),.sl 1 (us r.zM)]]⟩),(0,⟨2,[[.sl 1 (rl r.loc),.sl 1 (us r.zM)]]⟩)]⟩) (λk=>k<=T) (λk=>T-k) 0 (γ _) ?_ ?_
 ·exact wI
 intro k hk;refine xE mixed ?_
 by_cases hkl:k<T
 ·have hd:((k:Int)<(T:Int)):=by omega
  have hg:=gL r.zM (show k<r.zM.length by omega);have hb2:(r.zM.getD k 0 != r.zM.getD k 0)= false:=by simp
  refine iM zB hff hd hg hb2 ?_;refine⟨k+1,by omega,?_,by omega⟩;exact sW
 have hd:¬ ((k:Int)<(T:Int)):=by omega
 refine cX zB hff hd ?_
 refine xO (λk:Nat=>[(6,.int .i64 k),(3,.ref 1 2 0 0),(2,.ref 0 2 0 0)]) (λ_=>⟨2,[(1,⟨2,[[.sl 1 (rl r.loc),.sl 1 (us r.zM)]]⟩),(0,⟨2,[[.sl 1 (rl r.loc),.sl 1 (us r.zM)]]⟩)]⟩) (λk=>k<=T) (λk=>T-k) 0 (γ _) ?_ ?_
 ·exact wI
 intro t ht;refine xE mixed ?_
 by_cases htl:t<T
 ·have hd2:((t:Int)<(T:Int)):=by omega
  have hg2:=wG r.loc (show t<r.loc.length by omega);have hxl:=hr _ (yX (d:=[]) (show t<r.loc.length by omega));generalize r.loc.getD t []=x at hg2 hxl;have b2:((A:Int) != (A:Int))= false:=by simp
  refine p6 xP hl hd2 hg2 hxl b2 ?_
  refine xO (λk:Nat=>[(7,.int .i64 k),(6,.int .i64 t),(3,.ref 1 2 0 0),(2,.ref 0 2 0 0)]) (λ_=>⟨2,[(1,⟨2,[[.sl 1 (rl r.loc),.sl 1 (us r.zM)]]⟩),(0,⟨2,[[.sl 1 (rl r.loc),.sl 1 (us r.zM)]]⟩)]⟩) (λk=>k<=A) (λk=>A-k) 0 (γ _) ?_ ?_
  ·exact wI
  intro a ha;refine xE mixed ?_
  by_cases hal:a<A
  ·have hd3:((a:Int)<(A:Int)):=by omega
   have hg3:=yU .i64 x (show a<x.length by omega);have b3:(x.getD a 0 != x.getD a 0)= false:=by simp
   refine p7 xP hl hg2 hxl hd3 hg3 b3 ?_;refine⟨a+1,by omega,?_,by omega⟩;exact sW
  ·have hd3:¬ ((a:Int)<(A:Int)):=by omega
   refine iM xP hl hg2 hxl hd3 ?_;refine⟨t+1,by omega,?_,by omega⟩;exact sW
 have hd2:¬ ((t:Int)<(T:Int)):=by omega
 refine cX xP hl hd2 ?_;exact .dv
theorem mh {rs:List xN} {A F T:Nat} (ok:lS rs A F T):yA prog 21 [sD A F T rs,sD A F T rs] (.bool true):=by
 unfold sD;have b1:∀ n:Nat,((n:Int) != (n:Int))= false:=λn=>by simp
 have hR:=ok.hR;refine zL func21 SS λhf=>?_;refine lR xV b1 ?_
 refine xO (λk:Nat=>[(5,.int .i64 k),(3,.ref 1 4 0 0),(2,.ref 0 4 0 0)]) (λ_=>⟨2,[(1,⟨4,[[.int .i64 A,.int .i64 F,.int .i64 T,.sl 2 (xK rs)]]⟩),(0,⟨4,[[.int .i64 A,.int .i64 F,.int .i64 T,.sl 2 (xK rs)]]⟩)]⟩) (λk=>k<=rs.length) (λk=>rs.length-k) 0 (γ _) ?_ ?_
 ·exact wI
 intro k hk;refine xE mixed ?_
 by_cases hkl:k<rs.length
 ·have hd:((k:Int)<(rs.length:Int)):=by omega
  have hg:=wE rs hkl;have hm:=yX (d:=yF) hkl;have hs:=mw (ok.loc _ hm) ok.hT.2 ok.hA (ok.zM _ hm) (ok.row _ hm);simp only [simprocAttr,-ZA,↓zU,↓zD,zV,zT,zW,xV,hd,hg,xN.row]
  (repeat refine sd ?_)
  refine .go (cr hs) ?_;refine wU ?_;refine⟨k+1,by omega,?_,by omega⟩;exact sW
 ·have hd:¬ ((k:Int)<(rs.length:Int)):=by omega
  refine uA xV hd ?_;exact .dv
open Ru
theorem We {rs:List xN} {A F T:Nat} (ok:lS rs A F T) (hA0:0<A):xS prog 61 [sD A F T rs] mR (.agg [.int .i64 A,.int .i64 F,.int .i64 T,.yW 0 2 rs.length]) ⟨1+rs.length*(T+1),sE 0 rs A T (rD rs)⟩:=by
 obtain⟨T1,T16⟩:=ok.hT;obtain⟨R1,R64⟩:=ok.hR;have hA:=ok.hA;have hff:∀ i,i<rs.length->(rs.getD i yF).zM.length=T:=λi hi=>ok.zM _ (yX hi);unfold sD;refine zL func61 Tv λhf=>?_;refine uB ?_
 refine xO (λa:Nat × Nat × List (Nat × Ob)=>[(4,.int .i64 a.1),(3,.ref 2 4 0 0),(2,.ref 1 4 0 0),(1,.ref 0 4 0 0)]) (λa=>⟨a.2.1,a.2.2⟩)
  (λa=>a.1<=rs.length/\a.2.1<=3+120*a.1/\∃ kr key,GN (T+2) (mH T) (Sj rs A T) 3 a.2.1 a.1 kr key [(2,⟨4,[[.int .i64 A,.int .i64 F,.int .i64 T,xI kr 2 (zC (mH T) key a.1)]]⟩),(1,⟨4,[[.int .i64 0,.int .i64 0,.int .i64 0,.xZ]]⟩),(0,⟨4,[[.int .i64 (A:Int),.int .i64 (F:Int),.int .i64 (T:Int),.sl 2 (xK rs)]]⟩)] a.2.2) (λa=>rs.length-a.1)
  (0,3,[(2,⟨4,[[.int .i64 A,.int .i64 F,.int .i64 T,.xZ]]⟩),(1,⟨4,[[.int .i64 0,.int .i64 0,.int .i64 0,.xZ]]⟩),(0,⟨4,[[.int .i64 (A:Int),.int .i64 (F:Int),.int .i64 (T:Int),.sl 2 (xK rs)]]⟩)]) ⟨γ _,by simp,1000000,λ_ _=>0,?_⟩ ?_ ?_
 ·exact⟨λk hk=>rfl,rfl,rfl,ε _,by simp,λi u h=>absurd h (δ _),λi j u w h=>absurd h (δ _)⟩
 ·exact wI
 intro ⟨r,nb,xW⟩ ⟨hr,hnb,kr,key,hI⟩;simp only at hr hnb hI ⊢;have b0:=hI.lb 0 (by omega);have b1:=hI.lb 1 (by omega);have b2:=hI.lb 2 (by omega);simp only [yZ,reduceIte,Nat.reduceEqDiff] at b0 b1 b2;refine xE mixed ?_;by_cases hrl:r<rs.length
 case neg=>
  have hd:¬ ((r:Int)<(rs.length:Int)):=by omega
  obtain rfl:rs.length=r:=by omega
  have hg:xI kr 2 (zC (mH T) key rs.length)= .yW kr 2 rs.length:=by rw [sY (by rw [tP]; omega),tP]
  rw [hg] at b2;refine p5 hd b0 b1 b2 xV ?_;rw [xG,if_pos rfl,b1];refine⟨rfl,Nat.zero_lt_one,?_⟩;exact rT.xa hff (hI.low (objs':=zJ xW 1 ⟨4,[[.int .i64 A,.int .i64 F,.int .i64 T,.yW kr 2 rs.length]]⟩) (by omega) λk (hk:3<=k)=>by rw [xG,if_neg (by omega)]) (by omega)
 have hd:((r:Int)<(rs.length:Int)):=by omega
 have hg:=wE rs hrl;have hm:=yX (d:=yF) hrl;have hfl:=ok.zM _ hm;have hll:=ok.loc _ hm;have hrw:=ok.row _ hm;have hfr:=hI.fr;generalize hrun:rs.getD r yF=run at hg hfl hll hrw;have k5:=hI.k5;have x0:¬ nb=0:=by omega
 have x2:¬ nb=2:=by omega
 refine yz hd b0 xV ?_
 refine xO (λa:Nat × Nat × List (Nat × Ob)=>[(6,.int .i64 a.1),(5,.ref nb 2 0 0),(4,.int .i64 r),(3,.ref 2 4 0 0),(2,.ref 1 4 0 0),(1,.ref 0 4 0 0)]) (λa=>⟨a.2.1,a.2.2⟩)
  (λa=>a.1<=T/\nb+1<=a.2.1/\a.2.1<=nb+1+a.1/\∃ kf,St.look a.2.2 nb=some ⟨2,[[.xZ,xI kf 1 (us (run.zM.take a.1))]]⟩/\ St.look a.2.2 kf=zN 1 (us (run.zM.take a.1))/\ ((nb+1<=kf/\kf<a.2.1)\/kf=1000000)/\ (∀ k,k<nb->St.look a.2.2 k=St.look xW k)/\ St.look a.2.2 1000000=none) (λa=>T-a.1)
  (0,nb+1,(nb,⟨2,[[.xZ,.xZ]]⟩) :: xW) ⟨γ _,ε _,by simp,1000000,?_,?_,.inr rfl,λk hk=>?_,?_⟩ ?_ ?_
 ·simp [yZ,xI,us]
 ·simp only; rw [xU (by omega)]; exact hfr
 ·simp only; rw [xU (by omega)]
 ·simp only; rw [xU (by omega)]; exact hfr
 ·exact wI
 intro ⟨k,nx,objs1⟩ ⟨hk,n1,n2,kf,ln,lf,hkf,uD,fr⟩;simp only at hk n1 n2 ln lf hkf uD fr ⊢;have c0:=uD 0 (by omega);rw [b0] at c0;refine xE mixed ?_
 by_cases hkl:k<T
 ·have hd2:((k:Int)<(T:Int)):=by omega
  have hgf:=gL run.zM (show k<run.zM.length by omega);have hS:=yD (d:=0) (show k<run.zM.length by omega);have htl:(run.zM.take k).length=k:=by rw [η]; omega
  generalize run.zM.getD k 0=x at hgf hS;generalize run.zM.take k=fs at hS htl ln lf;have y1:¬ kf=nb:=by omega
  have y2:¬ nx=nb:=by omega
  have e1:St.look (yH objs1 kf) nb=some ⟨2,[[.xZ,xI kf 1 (us fs)]]⟩:=by rw [xH,if_neg y1]; exact ln
  simp only [simprocAttr,-ZA,↓zU,↓zD,zV,zT,zW,hd2,c0,hg,xV,xN.row,zB,hfl,hgf,ln,lf,htl,y1,y2,e1]
  (repeat refine sd ?_)
  refine⟨(k+1,?za,?zb),?h1,?h2,by show T-(k+1)<T-k; omega⟩
  case h2=>
   (refine yO.same ?_; simp only [wZ,Fr.get,simprocAttr,-ZA,zS])
   exact wrap_i64 (by omega)
  case h1=>
   have hpos:0<(us (fs ++ [x])).length:=by simp [us]
   have hsn:us fs ++ [[.int .u64 (ui x)]]=us (fs ++ [x]):=iA _ _
   refine⟨by show k+1<=T; omega,by show nb+1<=nx+1; omega,by show nx+1<=nb+1+(k+1); omega,nx,?_,?_,.inl ⟨by omega,by show nx<nx+1; omega⟩,λk' hk'=>?_,?_⟩
   ·simp only [hS];rw [xQ,if_neg y2,xG,if_pos rfl,e1]; rfl
   ·simp only [hS];rw [xQ,if_pos rfl,yQ hpos]; rfl
   ·simp only;rw [xQ,if_neg (by omega),xG,if_neg (by omega),xH,if_neg (by omega),uD k' hk']
   ·simp only;rw [xQ,if_neg (by omega),xG,if_neg (by omega),xH]
    split
    ·rfl
    ·exact fr
 have hd2:¬ ((k:Int)<(T:Int)):=by omega
 obtain rfl:T=k:=by omega
 rw [ζ (by omega)] at ln lf;have hgf:xI kf 1 (us run.zM)= .yW kf 1 T:=by rw [sY (by rw [zB]; omega),zB,hfl]
 rw [hgf] at ln;rw [yQ (by rw [zB]; omega)] at lf
 have hkf2:nb+1<=kf/\kf<nx:=by
  rcases hkf with e | e
  ·exact e
  ·rw [e,fr] at lf; cases lf
 have hnbx:nb<nx:=by omega
 simp only [simprocAttr,-ZA,↓zU,↓zD,zV,zT,zW,hd2,c0,hg,xV,xN.row,zB,hfl]
 (repeat refine sd ?_)
 refine xO (λa:Nat × Nat × List (Nat × Ob)=>[(7,.int .i64 a.1),(5,.ref nb 2 0 0),(4,.int .i64 r),(3,.ref 2 4 0 0),(2,.ref 1 4 0 0),(1,.ref 0 4 0 0)]) (λa=>⟨a.2.1,a.2.2⟩)
  (λa=>a.1<=T/\nx<=a.2.1/\a.2.1<=nx+6*a.1/\∃ kL kj,BC A nx (λt=>run.loc.getD t []) a.1 kL kj a.2.1 a.2.2/\St.look a.2.2 nb=some ⟨2,[[xI kL 1 (vQ A kj a.1),.yW kf 1 T]]⟩/\ (∀ k,k<nx->k≠nb->St.look a.2.2 k=St.look objs1 k)/\ St.look a.2.2 1000000=none) (λa=>T-a.1)
  (0,nx,objs1) ⟨γ _,ε _,by simp,1000000,λ_=>0,⟨fr,.inr rfl,λi h=>absurd h (δ _),λi j h=>absurd h (δ _)⟩,ln,λk _ _=>rfl,fr⟩ ?_ ?_
 ·exact wI
 intro ⟨t,n3,objs2⟩ ⟨ht,m1,m2,kL,kj,hB,lm,old2,fr2⟩;simp only at ht m1 m2 hB lm old2 fr2 ⊢;have d0:=old2 0 (by omega) (by omega);rw [c0] at d0;refine xE mixed ?_
 by_cases htl:t<T
 ·have hd3:((t:Int)<(T:Int)):=by omega
  have hgt:=wG run.loc (show t<run.loc.length by omega);have hxl:=hrw _ (yX (d:=[]) (show t<run.loc.length by omega));have hB1:=hB.lL;have hB2:=hB.hL;generalize hx:run.loc.getD t []=x at hgt hxl;simp only [simprocAttr,-ZA,↓zU,↓zD,zV,zT,zW,hd3,d0,hg,xV,xN.row,xP,hll]
  (repeat refine sd ?_)
  refine xO (λa:Nat × Nat × List (Nat × Ob) × Nat=>[(9,.int .i64 a.1),(8,xI a.2.2.2 1 (rows .i64 (x.take a.1))),(7,.int .i64 t),(5,.ref nb 2 0 0),(4,.int .i64 r),(3,.ref 2 4 0 0),(2,.ref 1 4 0 0),(1,.ref 0 4 0 0)]) (λa=>⟨a.2.1,a.2.2.1⟩)
   (λa=>a.1<=A/\n3<=a.2.1/\a.2.1<=n3+a.1/\St.look a.2.2.1 a.2.2.2=zN 1 (rows .i64 (x.take a.1))/\ ((n3<=a.2.2.2/\a.2.2.2<a.2.1)\/a.2.2.2=1000000)/\ (∀ k,k<n3->St.look a.2.2.1 k=St.look objs2 k)/\ St.look a.2.2.1 1000000=none) (λa=>A-a.1)
   (0,n3,objs2,1000000) ⟨γ _,ε _,by simp,fr2,.inr rfl,λk _=>rfl,fr2⟩ ?_ ?_
  ·(refine yO.same ?_; simp [wZ,Fr.get,xI,rows])
  intro ⟨a,n4,objs3,kI⟩ ⟨ha,p1,p2,lI,hkI,old3,fr3⟩;simp only at ha p1 p2 lI hkI old3 fr3 ⊢;have e0:=old3 0 (by omega);rw [d0] at e0;refine xE mixed ?_
  by_cases hal:a<A
  ·have hd4:((a:Int)<(A:Int)):=by omega
   have hgx:=yU .i64 x (show a<x.length by omega);have hS:=yD (d:=0) (show a<x.length by omega);have htl:(x.take a).length=a:=by rw [η]; omega
   generalize x.getD a 0=y at hgx hS;generalize x.take a=fs at hS htl lI ⊢;simp only [simprocAttr,-ZA,↓zU,↓zD,zV,zT,zW,hd4,e0,hg,xV,xN.row,xP,hll,hgt,hgx,xF,hxl,lI,htl]
   (repeat refine sd ?_)
   refine⟨(a+1,?zc,?zd,n4),?g1,?g2,by show A-(a+1)<A-a; omega⟩
   case g2=>
    simp only [hS]
    (refine yO.same ?_; simp only [wZ,Fr.get,simprocAttr,-ZA,zS])
    exact wrap_i64 (by omega)
   case g1=>
    have hpos:0<(rows .i64 (fs ++ [y])).length:=by simp [rows]
    refine⟨by show a+1<=A; omega,by show n3<=n4+1; omega,by show n4+1<=n3+(a+1); omega,?_,.inl ⟨by show n3<=n4; omega,by show n4<n4+1; omega⟩,λk hk=>?_,?_⟩
    ·simp only [hS];rw [xQ,if_pos rfl,yQ hpos]; rfl
    ·simp only;rw [xQ,if_neg (by omega),xH,if_neg (by omega),old3 k hk]
    ·simp only;rw [xQ,if_neg (by omega),xH]
     split
     ·rfl
     ·exact fr3
  have hd4:¬ ((a:Int)<(A:Int)):=by omega
  obtain rfl:A=a:=by omega
  rw [ζ (show x.length<=A by omega)] at lI ⊢;have hgI:xI kI 1 (rows .i64 x)= .yW kI 1 A:=by rw [sY (by rw [xF]; omega),xF,hxl]
  rw [yQ (by rw [xF]; omega)] at lI
  have hkI2:n3<=kI/\kI<n4:=by
   rcases hkI with e | e
   ·exact e
   ·rw [e,fr3] at lI; cases lI
  have q1:St.look objs3 nb=some ⟨2,[[xI kL 1 (vQ A kj t),.yW kf 1 T]]⟩:=by rw [old3 nb (by omega)]; exact lm
  have q2:St.look objs3 kL=zN 1 (vQ A kj t):=by
   rcases hB2 with e | e
   ·rw [old3 kL (by omega)]; exact hB1
   ·rw [e,fr2] at hB1; rw [e,fr3]; exact hB1
  have y1:¬ kL=nb:=by omega
  have y2:¬ n4=nb:=by omega
  have y3:¬ n4+1=nb:=by omega
  have y4:¬ n4=kL:=by omega
  have y5:¬ n4+1=kL:=by omega
  have e1:St.look (yH objs3 kL) nb=some ⟨2,[[xI kL 1 (vQ A kj t),.yW kf 1 T]]⟩:=by rw [xH,if_neg y1]; exact q1
  simp only [simprocAttr,-ZA,↓zU,↓zD,zV,zT,zW,hd4,e0,hg,xV,xN.row,xP,hll,hgt,xF,hxl,hgI,q1,q2,y1,y2,y3,y4,y5,e1,uT]
  (repeat refine sd ?_)
  have hrow:=bR A kj t kI;have hpos:0<(vQ A kj t ++ [[D.yW kI 1 A]]).length:=by simp
  refine⟨(t+1,?ze,?zf),?f1,?f2,by show T-(t+1)<T-t; omega⟩
  case f2=>
   (refine yO.same ?_; simp only [wZ,Fr.get,simprocAttr,-ZA,zS])
   exact wrap_i64 (by omega)
  case f1=>
   refine⟨by show t+1<=T; omega,by show nx<=n4+1+1; omega,by show n4+1+1<=nx+6*(t+1); omega,n4+1,λi=>if i=t then kI else kj i,⟨?_,.inl ⟨by omega,by show n4+1<n4+1+1; omega⟩,λi hi=>?_,λi j hi hj he=>?_⟩,?_,λk hk hk2=>?_,?_⟩
   ·show St.look (xM _ _ _++_) _=_;rw [hrow,xQ,if_pos rfl,yQ hpos]; rfl
   ·change i<t+1 at hi;show nx<=(if i=t then kI else kj i)/\ (if i=t then kI else kj i)<n4+1+1/\(if i=t then kI else kj i)≠ n4+1/\St.look (xM _ _ _++_) (if i=t then kI else kj i)= some ⟨1,rows .i64 (run.loc.getD i [])⟩
    by_cases e:i=t
    ·rw [if_pos e,e,hx];exact⟨by omega,by omega,by omega,by rw [xQ,if_neg (by omega),xU (by omega),xG,if_neg (by omega),xH,if_neg (by omega),lI]⟩
    ·rw [if_neg e];obtain⟨a,b,c,d⟩:=hB.lj i (by omega);exact⟨a,by omega,by omega,by rw [xQ,if_neg (by omega),xU (by omega),xG,if_neg (by omega),xH,if_neg (by omega),old3 _ b,d]⟩
   ·change i<t+1 at hi;change j<t+1 at hj
    by_cases e:i=t <;> by_cases e2:j=t
    ·omega
    ·rw [if_pos e,if_neg e2] at he;have:=hB.lj j (by omega);omega
    ·rw [if_neg e,if_pos e2] at he;have:=hB.lj i (by omega);omega
    ·rw [if_neg e,if_neg e2] at he;exact hB.dj i j (by omega) (by omega) he
   ·show St.look (xM _ _ _++_) _=_;rw [hrow,xQ,if_neg (by omega),xU (by omega),xG,if_pos rfl,e1]; rfl
   ·show St.look (xM _ _ _++_) _=_;rw [xQ,if_neg (by omega),xU (by omega),xG,if_neg (by omega),xH,if_neg (by omega),old3 k (by omega),old2 k hk hk2]
   ·show St.look (xM _ _ _++_) _=_;rw [xQ,if_neg (by omega),xU (by omega),xG,if_neg (by omega),xH]
    split
    ·rfl
    ·exact fr3
 have hd3:¬ ((t:Int)<(T:Int)):=by omega
 obtain rfl:T=t:=by omega
 have hgp:xI kL 1 (vQ A kj T)= .yW kL 1 T:=by rw [sY (by rw [uT]; omega),uT]
 have lL:=hB.lL;rw [yQ (by rw [uT]; omega)] at lL;rw [hgp] at lm
 have hLk:nx<=kL/\kL<n3:=by
  rcases hB.hL with e | e
  ·exact e
  ·rw [e,fr2] at lL; cases lL
 have hk:=hI.hk;have q2:St.look objs2 2=some ⟨4,[[.int .i64 A,.int .i64 F,.int .i64 T,xI kr 2 (zC (mH T) key r)]]⟩:=by rw [old2 2 (by omega) (by omega),uD 2 (by omega)]; exact b2
 have qr:St.look objs2 kr=zN 2 (zC (mH T) key r):=by
  rcases hk.2 with e | e
  ·rw [old2 kr (by omega) (by omega),uD kr (by omega)]; exact hI.lr
  ·have:=hI.lr;rw [e,hI.fr] at this;rw [e,fr2]; exact this
 have y1:¬ kr=2:=by omega
 have y2:¬ n3=2:=by omega
 have y3:¬ n3+1=2:=by omega
 have y4:¬ n3=kr:=by omega
 have y5:¬ n3+1=kr:=by omega
 have y6:¬ n3=nb:=by omega
 have e1:St.look (yH objs2 kr) 2=some ⟨4,[[.int .i64 A,.int .i64 F,.int .i64 T,xI kr 2 (zC (mH T) key r)]]⟩:=by rw [xH,if_neg y1]; exact q2
 simp only [simprocAttr,-ZA,↓zU,↓zD,zV,zT,zW,hd3,d0,hg,xV,xN.row,xP,hll,lm,q2,qr,y1,y2,y3,y4,y5,y6,e1,tP]
 (repeat refine sd ?_)
 refine⟨(r+1,?zg,?zh),?e1,?e2,by show rs.length-(r+1)<rs.length-r; omega⟩
 case e2=>
  (refine yO.same ?_; simp only [wZ,Fr.get,simprocAttr,-ZA,zS])
  exact wrap_i64 (by omega)
 case e1=>
  have hrow:=sy (mH T) key (Tw kL kf kj) r;have hrow2:mH T (Tw kL kf kj) r = [.yW kL 1 T,.yW kf 1 T]:=rfl;rw [hrow2] at hrow;have hpos:0<(zC (mH T) key r ++ [[D.yW kL 1 T,D.yW kf 1 T]]).length:=by simp
  have hx:∀ k,3<=k->k<n3->k≠kr->St.look (xM (n3+1) 2 (zC (mH T) key r ++ [[D.yW kL 1 T,D.yW kf 1 T]])++ (n3,⟨2,[[D.yW kL 1 T,D.yW kf 1 T]]⟩) :: zJ (yH objs2 kr) 2 ⟨4,[[.int .i64 A,.int .i64 F,.int .i64 T,xI (n3+1) 2 (zC (mH T) key r ++ [[D.yW kL 1 T,D.yW kf 1 T]])]]⟩) k=St.look objs2 k:=λk h1 h2 h3=>by rw [xQ,if_neg (by omega),xU (by omega),xG,if_neg (by omega),xH,if_neg (by omega)]
  refine⟨by show r+1<=rs.length; omega,by show n3+1+1<=3+120*(r+1); omega,n3+1,λi=>if i=r then Tw kL kf kj else key i,?_⟩
  refine hI.more (by show nb<=n3+1+1; omega) (λk hk=>?_) (λk hk1 hk2 hk3=>?_) ?_ ?_ ⟨by omega,by show n3+1<n3+1+1; omega⟩ (λu hu=>?_) (λu w hu hw he=>?_)
  ·show St.look (xM _ _ _++_) _=_;rw [hrow,xQ,if_neg (by omega),xU (by omega),xG]
   by_cases e:k=2
   ·subst e;rw [if_pos rfl,e1]; rfl
   ·rw [if_neg (λh=>e h.symm),xH,if_neg (by omega),old2 k (by omega) (by omega),uD k (by omega),hI.lb k hk,xU (λh=>e h.symm),xU (λh=>e h.symm)]
  ·show St.look (xM _ _ _++_) _=_;rw [hx k hk2 (by omega) hk3,old2 k (by omega) (by omega),uD k hk1]
  ·show St.look (xM _ _ _++_) _=_;rw [xQ,if_neg (by omega),xU (by omega),xG,if_neg (by omega),xH]
   split
   ·rfl
   ·exact fr2
  ·show St.look (xM _ _ _++_) _=_;rw [hrow,xQ,if_pos rfl,yQ hpos]; rfl
  ·match u,hu with
   | 0,_=> refine⟨by show nb<=kL; omega,by show kL<n3+1+1; omega,by show kL≠n3+1; omega,?_⟩;show St.look (xM _ _ _++_) kL=some ⟨1,vQ A kj T⟩;rw [hx kL (by omega) (by omega) (by omega),lL]
   | 1,_=> refine⟨by show nb<=kf; omega,by show kf<n3+1+1; omega,by show kf≠n3+1; omega,?_⟩;show St.look (xM _ _ _++_) kf=some ⟨1,us (rs.getD r yF).zM⟩;rw [hx kf (by omega) (by omega) (by omega),old2 kf (by omega) (by omega),lf,hrun]
   | t+2,hu=> obtain⟨a,b,c,d⟩:=hB.lj t (by omega);refine⟨by show nb<=kj t; omega,by show kj t<n3+1+1; omega,by show kj t≠n3+1; omega,?_⟩;show St.look (xM _ _ _++_) (kj t)= some ⟨1,rows .i64 (rD rs r t)⟩;rw [hx _ (by omega) (by omega) (by omega),d];unfold rD;rw [hrun]
  ·match u,w,hu,hw,he with
   | 0,0,_,_,_=>rfl
   | 1,1,_,_,_=>rfl
   | 0,1,_,_,he=>exact absurd (show kL=kf from he) (by omega)
   | 1,0,_,_,he=>exact absurd (show kf=kL from he) (by omega)
   | 0,t+2,_,hw,he=>exact absurd (show kL=kj t from he).symm (hB.lj t (by omega)).2.2.1
   | t+2,0,hu,_,he=>exact absurd (show kj t=kL from he) (hB.lj t (by omega)).2.2.1
   | 1,t+2,_,hw,he=> have:=(hB.lj t (by omega)).1;exact absurd (show kf=kj t from he) (by omega)
   | t+2,1,hu,_,he=> have:=(hB.lj t (by omega)).1;exact absurd (show kj t=kf from he) (by omega)
   | t+2,s+2,hu,hw,he=>rw [hB.dj t s (by omega) (by omega) he]
end Go.Pd
