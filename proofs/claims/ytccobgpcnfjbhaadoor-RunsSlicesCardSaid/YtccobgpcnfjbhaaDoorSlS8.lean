/- Part S8. -/
import Derived.Test.YtccobgpcnfjbhaaDoorSlS7
set_option linter.unusedSectionVars false
set_option linter.unusedVariables false
set_option linter.unusedSimpArgs false
set_option linter.defProp false
set_option maxRecDepth 20000
set_option maxHeartbeats 1000000
open Go.Proofs.Tryd
open List renaming drop_eq_nil_of_le->γ,all_cons->δ,all_nil->ε
open Bool renaming false_and->ζ,true_and->η
open Nat renaming zero_le->θ
namespace Go.Pd
open Go Go.Proofs
open BitVec renaming isValue -> ZA
open Ru
namespace Ru
def nE (a b:uP):Bool:=decide (a.W=b.W)&& decide (a.V=b.V)&& decide (a.R=b.R)
theorem ye (a:uP):nE a a=true:=by simp [nE]
end Ru
theorem ox (a b:List (BitVec 64)):wP prog 24 [.sl 1 (us a),.sl 1 (us b)] (.bool (decide (a=b))):=by
 refine wZ func24 YK λhf=>?_;simp only [D.vU,D.fact,yB] at hf;have hmx:maxLen=9223372036854775807:=rfl;by_cases hl:a.length=b.length
 case neg=>
  have e:((a.length:Int) != (b.length:Int))= true:=by rw [bne_iff_ne]; omega
  rw [decide_eq_false λh=>hl (by rw [h])];refine rW yB e ?_;exact .dv
 have e:((a.length:Int) != (b.length:Int))= false:=by rw [bne_eq_false_iff_eq]; omega
 refine rW yB e ?_
 refine xL (λk:Nat=>[(5,.int .i64 k),(1,.sl 1 (us b)),(0,.sl 1 (us a))]) (λ_=>⟨0,[]⟩) (λk=>k<=a.length/\decide (a=b)= decide (a.drop k=b.drop k)) (λk=>a.length-k) 0 ⟨θ _,rfl⟩ ?_ ?_
 ·exact uM
 intro k ⟨hk,hi⟩;refine yW mixed ?_
 by_cases h:k<a.length
 ·have hd:((k:Int)<(a.length:Int)):=by omega
  have hd':((k:Int)<(b.length:Int)):=by omega
  rw [drop_cons (d:=0#64) h,drop_cons (d:=0#64) (show k<b.length by omega)] at hi;have hga:=pL a h;have hgb:=pL b (show k<b.length by omega);rw [show a.getD k 0=a.getD k 0#64 from rfl] at hga;rw [show b.getD k 0=b.getD k 0#64 from rfl] at hgb;generalize a.getD k 0#64=x at hi hga;generalize b.getD k 0#64=y at hi hgb
  by_cases hxy:x=y
  ·have e1:(x != y)= false:=by simpa using hxy
   rw [hxy] at hi;refine w4 yB hd hd' hga hgb e1 ?_;refine⟨k+1,⟨by omega,by rw [hi]; simp⟩,?_,by omega⟩;exact oA
  ·have e1:(x != y)= true:=by simpa using hxy
   rw [hi,decide_eq_false λh=>hxy (List.cons.inj h).1];refine w4 yB hd hd' hga hgb e1 ?_;exact .dv
 ·have hd:¬ ((k:Int)<(a.length:Int)):=by omega
  rw [hi,γ (by omega),γ (by omega)];refine rW yB hd ?_;exact .dv
theorem x8 (a b:uP):wP prog 10 [a.d,b.d] (.bool (nE a b)):=by
 have h35:=ox a.V b.V;unfold uP.d;refine wZ func10 YD λhf=>?_;simp only [D.vU,D.fact,yB,tB] at hf;have hmx:maxLen=9223372036854775807:=rfl;by_cases h1:a.W=b.W
 case neg=>
  have e1:(a.W != b.W)= true:=by simpa using h1
  rw [show nE a b=false by simp [nE,h1]];refine wL e1 ?_;exact .dv
 have e1:(a.W != b.W)= false:=by simpa using h1
 refine wL e1 ?_;refine .go (cr h35) ?_;by_cases h2:a.V=b.V
 case neg=> rw [decide_eq_false h2,show nE a b=false by simp [nE,h2]];refine yF ?_;exact .dv
 rw [decide_eq_true h2,show nE a b=decide (a.R=b.R) by simp [nE,h1,h2]];by_cases hl:a.R.length=b.R.length
 case neg=>
  have e:((a.R.length:Int) != (b.R.length:Int))= true:=by rw [bne_iff_ne]; omega
  rw [decide_eq_false λh=>hl (by rw [h])];refine rW tB e ?_;exact .dv
 have e:((a.R.length:Int) != (b.R.length:Int))= false:=by rw [bne_eq_false_iff_eq]; omega
 refine rW tB e ?_
 refine xL (λk:Nat=>[(5,.int .i64 k),(3,.ref 1 3 0 0),(2,.ref 0 3 0 0)]) (λ_=>⟨2,[(1,⟨3,[[.int .i64 b.W,.sl 1 (us b.V),.sl 1 (rr b.R)]]⟩),(0,⟨3,[[.int .i64 a.W,.sl 1 (us a.V),.sl 1 (rr a.R)]]⟩)]⟩)
  (λk=>k<=a.R.length/\decide (a.R=b.R)= decide (a.R.drop k=b.R.drop k)) (λk=>a.R.length-k) 0 ⟨θ _,rfl⟩ ?_ ?_
 ·exact uM
 intro k ⟨hk,hi⟩;refine yW mixed ?_
 by_cases h:k<a.R.length
 ·have hd:((k:Int)<(a.R.length:Int)):=by omega
  have hd':((k:Int)<(b.R.length:Int)):=by omega
  rw [drop_cons (d:=[]) h,drop_cons (d:=[]) (show k<b.R.length by omega)] at hi;have hga:=jV a.R h;have hgb:=jV b.R (show k<b.R.length by omega);generalize a.R.getD k []=x at hi hga;generalize b.R.getD k []=y at hi hgb;refine v8 tB hd hd' hga hgb ?_;refine .go (cr (ox x y)) ?_
  by_cases hxy:x=y
  ·rw [decide_eq_true hxy];rw [hxy] at hi;refine yF ?_;refine⟨k+1,⟨by omega,by rw [hi]; simp⟩,?_,by omega⟩;exact oA
  ·rw [decide_eq_false hxy,hi,decide_eq_false λh=>hxy (List.cons.inj h).1];refine yF ?_;exact .dv
 ·have hd:¬ ((k:Int)<(a.R.length:Int)):=by omega
  rw [hi,γ (by omega),γ (by omega)];refine rW tB hd ?_;exact .dv
namespace Ru
def rP (r:xG):Bool:=decide (r.loc.length<=20)&& decide (r.sK.length<=20)&& r.loc.all λl=>decide (l.length<=10)
def jm (s:vT):Bool:=if (10<s.rs.length/\s.rs.length<=64)\/70<s.rs.length then false else s.rs.all rP
end Ru
theorem Yd (s:vT):wP prog 5 [s.d] (.bool (jm s)):=by
 have hD:s.d = .agg [.int .i64 s.ag,.int .i64 s.fa,.int .i64 s.ln,.sl 2 (yL s.rs)]:=rfl;rw [hD];refine wZ func5 k5 λhf=>?_
 by_cases h0:(10<s.rs.length/\s.rs.length<=64)\/70<s.rs.length
 ·rw [show jm s=false from if_pos h0]
  by_cases a1:(10:Int)<(s.rs.length:Int)
  ·by_cases a2:(s.rs.length:Int)<=64
   ·refine qi xV a1 a2 ?_;exact .dv
   ·have a3:(70:Int)<(s.rs.length:Int):=by omega
    refine jt xV a1 a2 a3 ?_;exact .dv
  ·exfalso; omega
 rw [show jm s=s.rs.all rP from if_neg h0];have a3:¬ (70:Int)<(s.rs.length:Int):=by omega
 by_cases a1:(10:Int)<(s.rs.length:Int)
 case pos=>
  have a2:¬ (s.rs.length:Int)<=64:=by omega
  refine jt xV a1 a2 a3 ?_
  refine xL (λk:Nat=>[(3,.int .i64 k),(1,.ref 0 4 0 0)]) (λ_=>⟨1,[(0,⟨4,[[.int .i64 s.ag,.int .i64 s.fa,.int .i64 s.ln,.sl 2 (yL s.rs)]]⟩)]⟩)
   (λk=>k<=s.rs.length/\s.rs.all rP=(s.rs.drop k).all rP) (λk=>s.rs.length-k) 0 ⟨θ _,rfl⟩ ?_ ?_
  ·exact uM
  intro k ⟨hk,hi⟩;refine yW mixed ?_;by_cases hkl:k<s.rs.length
  case neg=>
   have hd:¬ ((k:Int)<(s.rs.length:Int)):=by omega
   rw [γ (by omega),ε] at hi;rw [hi];refine rW xV hd ?_;exact .dv
  have hd:((k:Int)<(s.rs.length:Int)):=by omega
  rw [drop_cons (d:=vH) hkl,δ] at hi;have hg:=uV s.rs hkl;generalize s.rs.getD k vH=r at hg hi
  by_cases c1:(20:Int)<(r.loc.length:Int)
  ·rw [show rP r=false by simp [rP]; omega,ζ] at hi;rw [hi];simp only [simprocAttr,-ZA,↓zU,↓zD,zV,zT,zW,xV,hd,hg,xG.row,yR,c1]
   (repeat refine sd ?_)
   exact .dv
  by_cases c2:(20:Int)<(r.sK.length:Int)
  ·rw [show rP r=false by simp [rP]; omega,ζ] at hi;rw [hi];simp only [simprocAttr,-ZA,↓zU,↓zD,zV,zT,zW,xV,hd,hg,xG.row,yR,c1,yB,c2]
   (repeat refine sd ?_)
   exact .dv
  have hfr:rP r=r.loc.all λl=>decide (l.length<=10):=by unfold rP; rw [decide_eq_true (by omega),decide_eq_true (by omega)]; rfl
  simp only [simprocAttr,-ZA,↓zU,↓zD,zV,zT,zW,xV,hd,hg,xG.row,yR,c1,yB,c2]
  (repeat refine sd ?_)
  refine xL (λt:Nat=>[(4,.int .i64 t),(3,.int .i64 k),(1,.ref 0 4 0 0)]) (λ_=>⟨1,[(0,⟨4,[[.int .i64 s.ag,.int .i64 s.fa,.int .i64 s.ln,.sl 2 (yL s.rs)]]⟩)]⟩)
   (λt=>t<=r.loc.length/\rP r=(r.loc.drop t).all λl=>decide (l.length<=10)) (λt=>r.loc.length-t) 0 ⟨θ _,hfr⟩ ?_ ?_
  ·exact uM
  intro t ⟨ht,hb⟩;refine yW mixed ?_;by_cases htl:t<r.loc.length
  case neg=>
   have hd2:¬ ((t:Int)<(r.loc.length:Int)):=by omega
   rw [γ (by omega),ε] at hb;simp only [simprocAttr,-ZA,↓zU,↓zD,zV,zT,zW,xV,hd,hg,xG.row,yR,hd2]
   (repeat refine sd ?_)
   refine⟨k+1,⟨by omega,by rw [hi,hb,η]⟩,?_,by omega⟩;exact oA
  have hd2:((t:Int)<(r.loc.length:Int)):=by omega
  rw [drop_cons (d:=[]) htl,δ] at hb;have hgu:=lU r.loc htl;generalize r.loc.getD t []=x at hgu hb
  by_cases hx:(10:Int)<(x.length:Int)
  ·rw [decide_eq_false (by omega),ζ] at hb;rw [hi,hb,ζ];simp only [simprocAttr,-ZA,↓zU,↓zD,zV,zT,zW,xV,hd,hg,xG.row,yR,hd2,hgu,wF,hx]
   (repeat refine sd ?_)
   exact .dv
  ·rw [decide_eq_true (by omega),η] at hb;simp only [simprocAttr,-ZA,↓zU,↓zD,zV,zT,zW,xV,hd,hg,xG.row,yR,hd2,hgu,wF,hx]
   (repeat refine sd ?_)
   refine⟨t+1,⟨by omega,hb⟩,?_,by omega⟩;exact oA
 refine qi xV a1 a3 ?_
 refine xL (λk:Nat=>[(3,.int .i64 k),(1,.ref 0 4 0 0)]) (λ_=>⟨1,[(0,⟨4,[[.int .i64 s.ag,.int .i64 s.fa,.int .i64 s.ln,.sl 2 (yL s.rs)]]⟩)]⟩)
  (λk=>k<=s.rs.length/\s.rs.all rP=(s.rs.drop k).all rP) (λk=>s.rs.length-k) 0 ⟨θ _,rfl⟩ ?_ ?_
 ·exact uM
 intro k ⟨hk,hi⟩;refine yW mixed ?_;by_cases hkl:k<s.rs.length
 case neg=>
  have hd:¬ ((k:Int)<(s.rs.length:Int)):=by omega
  rw [γ (by omega),ε] at hi;rw [hi];refine rW xV hd ?_;exact .dv
 have hd:((k:Int)<(s.rs.length:Int)):=by omega
 rw [drop_cons (d:=vH) hkl,δ] at hi;have hg:=uV s.rs hkl;generalize s.rs.getD k vH=r at hg hi
 by_cases c1:(20:Int)<(r.loc.length:Int)
 ·rw [show rP r=false by simp [rP]; omega,ζ] at hi;rw [hi];simp only [simprocAttr,-ZA,↓zU,↓zD,zV,zT,zW,xV,hd,hg,xG.row,yR,c1]
  (repeat refine sd ?_)
  exact .dv
 by_cases c2:(20:Int)<(r.sK.length:Int)
 ·rw [show rP r=false by simp [rP]; omega,ζ] at hi;rw [hi];simp only [simprocAttr,-ZA,↓zU,↓zD,zV,zT,zW,xV,hd,hg,xG.row,yR,c1,yB,c2]
  (repeat refine sd ?_)
  exact .dv
 have hfr:rP r=r.loc.all λl=>decide (l.length<=10):=by unfold rP; rw [decide_eq_true (by omega),decide_eq_true (by omega)]; rfl
 simp only [simprocAttr,-ZA,↓zU,↓zD,zV,zT,zW,xV,hd,hg,xG.row,yR,c1,yB,c2]
 (repeat refine sd ?_)
 refine xL (λt:Nat=>[(4,.int .i64 t),(3,.int .i64 k),(1,.ref 0 4 0 0)]) (λ_=>⟨1,[(0,⟨4,[[.int .i64 s.ag,.int .i64 s.fa,.int .i64 s.ln,.sl 2 (yL s.rs)]]⟩)]⟩)
  (λt=>t<=r.loc.length/\rP r=(r.loc.drop t).all λl=>decide (l.length<=10)) (λt=>r.loc.length-t) 0 ⟨θ _,hfr⟩ ?_ ?_
 ·exact uM
 intro t ⟨ht,hb⟩;refine yW mixed ?_;by_cases htl:t<r.loc.length
 case neg=>
  have hd2:¬ ((t:Int)<(r.loc.length:Int)):=by omega
  rw [γ (by omega),ε] at hb;simp only [simprocAttr,-ZA,↓zU,↓zD,zV,zT,zW,xV,hd,hg,xG.row,yR,hd2]
  (repeat refine sd ?_)
  refine⟨k+1,⟨by omega,by rw [hi,hb,η]⟩,?_,by omega⟩;exact oA
 have hd2:((t:Int)<(r.loc.length:Int)):=by omega
 rw [drop_cons (d:=[]) htl,δ] at hb;have hgu:=lU r.loc htl;generalize r.loc.getD t []=x at hgu hb
 by_cases hx:(10:Int)<(x.length:Int)
 ·rw [decide_eq_false (by omega),ζ] at hb;rw [hi,hb,ζ];simp only [simprocAttr,-ZA,↓zU,↓zD,zV,zT,zW,xV,hd,hg,xG.row,yR,hd2,hgu,wF,hx]
  (repeat refine sd ?_)
  exact .dv
 ·rw [decide_eq_true (by omega),η] at hb;simp only [simprocAttr,-ZA,↓zU,↓zD,zV,zT,zW,xV,hd,hg,xG.row,yR,hd2,hgu,wF,hx]
  (repeat refine sd ?_)
  refine⟨t+1,⟨by omega,hb⟩,?_,by omega⟩;exact oA
end Go.Pd
