/- Part E1. -/
import Derived.Test.YtndfaefmmcoapaaGreatUbC2
import Derived.Test.YtndfaefmmcoapaaGreatUbKG
set_option linter.unusedSectionVars false
set_option linter.unusedVariables false
set_option linter.unusedSimpArgs false
set_option linter.defProp false
set_option maxRecDepth 20000
set_option maxHeartbeats 1000000
open Go.Proofs.Tryz
open Bool renaming true_and->γ,false_and->δ,and_eq_true->ε,eq_iff_iff->ζ,or_false->η,or_eq_false_iff->θ,eq_false_iff->κ,and_false->μ,and_true->ν
open List renaming mem_range->ξ,mem_map->ο,map_congr_left->π,all_eq_true->τ,getElem?_eq_getElem->υ,drop_eq_nil_of_le->χ,all_cons->ω,all_nil->Aa,any_eq_true->Ab,length_pos_iff->Ac,mem_singleton->Ad,getElem_mem->Ae,ext_getElem->Af
open BitVec renaming getLsbD_zero->Ag,getLsbD_not->Ah,getLsbD_and->Ai,getLsbD_or->Aj
open Nat renaming exists_eq_add_of_le->Ak,le_refl->Al,shiftRight_eq_div_pow->Am,zero_le->An,mul_one->Ao,mul_pos->Ap
namespace Go.Pd
open Go Go.Proofs
open Rs Fm Ru Te
namespace Te
def pt (T p:Nat):Nat × Nat:=(p / T,p % T)
theorem MN {l:List Bool} {p:Nat} (h:p<l.length):(rbR l).getD p [] = [.bool (l.getD p false)]:=by simp [rbR,List.getD,h]
def fY (rs:List xG) (g:Nat) (m:Bool) (p q:Nat × Nat) (a:Nat):Bool:=(List.range a).all λb=>!g.testBit b || (decide (yJ rs b p=yJ rs b q)== m)
end Te
open Ru
namespace Ru
def od : qF:=⟨0,[],[]⟩
def pA (rs:List xG) (l:List (Nat × Nat)) (A F:Nat):qF:=⟨(l.length:Int),lI rs l F,qH rs l A⟩
def yA (R t:Nat):List (Nat × Nat):=(List.range R).map λr=>(r,t)
theorem vU (R t:Nat):(yA R t).length=R:=by simp [yA]
theorem p6 (R t:Nat):yA (R+1) t=yA R t ++ [(R,t)]:=by unfold yA; rw [List.range_succ,List.map_append]; rfl
theorem V2 {rs:List xG} {T t R:Nat} (ht:t<T) (hR:R<=rs.length):Inb rs T (yA R t):=λp hp=>by simp only [yA,ο,ξ] at hp;obtain⟨i,hi,rfl⟩:=hp;exact⟨by omega,ht⟩
def bE (s:tZ) (t:Int):qF × Int:= if chk s≠0 then(od,chk s) else if t<0\/s.ln<=t then(od,2) else(pA s.rs (yA s.rs.length t.toNat) s.ag.toNat s.fa.toNat,0)
theorem rI {k:Nat} (hk:k<64) (i:Nat):(1#64 <<< k).getLsbD i=decide (i=k):=by
 by_cases hi:i<64
 ·have:∀ k,k<64->∀ i,i<64->(1#64 <<< k).getLsbD i=decide (i=k):=by decide
  exact this k hk i hi
 ·rw [BitVec.getLsbD_of_ge _ _ (by omega)];exact(decide_eq_false (by omega)).symm
theorem zk {rs:List xG} {l:List (Nat × Nat)} {f:Nat}:∀ (k i:Nat),k<=64->(qW rs l f k).getLsbD i=(decide (i<k)&& (xe rs (l.getD i (0,0))).getLsbD f)
 | 0,i,_=>by simp [qW]
 | k+1,i,hk=>by
  unfold qW;rw [Aj,zk k i (by omega)]
  by_cases e:i=k
  ·subst e
   cases hb:(xe rs (l.getD i (0,0))).getLsbD f
   ·simp
   ·rw [if_pos rfl,rI (by omega)];simp
  ·have h2:(if (xe rs (l.getD k (0,0))).getLsbD f=true then 1#64 <<< k else 0#64).getLsbD i=false:=by
    split
    ·rw [rI (by omega)]; exact decide_eq_false e
    ·exact Ag
   rw [h2,η];congr 1;rw [ζ,decide_eq_true_iff,decide_eq_true_iff]; omega
theorem kV {rs:List xG} {l:List (Nat × Nat)} {a:Nat} {x:Int}:∀ (k i:Nat),k<=64->(fY rs l a x k).getLsbD i=(decide (i<k)&& decide (yJ rs a (l.getD i (0,0))= x))
 | 0,i,_=>by simp [fY]
 | k+1,i,hk=>by
  unfold fY;rw [Aj,kV k i (by omega)]
  by_cases e:i=k
  ·subst e
   by_cases hb:yJ rs a (l.getD i (0,0))= x
   ·rw [if_pos hb,rI (by omega),decide_eq_true hb];simp
   ·rw [if_neg hb,decide_eq_false hb];simp
  ·have h2:(if yJ rs a (l.getD k (0,0))= x then 1#64 <<< k else 0#64).getLsbD i=false:=by
    split
    ·rw [rI (by omega)]; exact decide_eq_false e
    ·exact Ag
   rw [h2,η];congr 1;rw [ζ,decide_eq_true_iff,decide_eq_true_iff]; omega
theorem yf {rs:List xG} {A F T:Nat} (ok:OkR rs A F T) {l:List (Nat × Nat)} (h1:1<=l.length) (h2:l.length<=64):lE (pA rs l A F) l.length where
 w:=rfl
 hW:=⟨h1,h2⟩
 hV:=by have:=ok.hF; simp [pA,lI]; exact this
 hR:=by have:=ok.hA; simp [pA,qH]; exact this
 row:=λr hr=>by simp only [pA,qH,ο] at hr;obtain⟨a,_,rfl⟩:=hr;simp [rC]
 val:=λx hx=>by simp only [pA,lI,ο] at hx;obtain⟨f,_,rfl⟩:=hx;refine mh h2 λi hi=>?_;rw [zk _ _ h2,ε] at hi;exact of_decide_eq_true hi.1
 rel:=λr hr x hx=>by simp only [pA,qH,ο] at hr;obtain⟨a,_,rfl⟩:=hr;simp only [rC,ο] at hx;obtain⟨p,_,rfl⟩:=hx;refine mh h2 λi hi=>?_;rw [kV _ _ h2,ε] at hi;exact of_decide_eq_true hi.1
end Ru
end Go.Pd

/- Part E8. -/
namespace Go.Pd
open Go Go.Proofs
open BitVec renaming isValue -> ZA
open Rs Fm Ru Te
namespace Te
theorem RH {l:List Bool} {p:Nat} (h:p<l.length):(rbR l).getD p [] = [.bool (l.getD p false)]:=by simp [rbR,List.getD,h]
theorem drop_one {α:Type} {l:List α} {d:α} {k:Nat} (h:k<l.length):l.drop k=l.getD k d :: l.drop (k+1):=by rw [List.drop_eq_getElem_cons h]; simp [List.getD,h]
def Yy (r:xG):Bool:=decide (r.loc.length<=20)&& decide (r.fac.length<=20)&& r.loc.all λl=>decide (l.length<=20)
def NW (s:tZ):Bool:=if 70<s.rs.length then false else s.rs.all Yy&&(decide (chk s≠0) || decide (s.rs.length*s.ln.toNat<=40))
end Te
theorem Md (s:tZ):zX prog 52 [s.d] (.bool (NW s)):=by
 have hD:s.d = .agg [.int .i64 s.ag,.int .i64 s.fa,.int .i64 s.ln,.sl 2 (zL s.rs)]:=rfl;have hC:=k9 s;rw [hD] at hC ⊢;refine xY.xP mixed func52 k52 (by simp) λhf=>?_
 by_cases h0:70<s.rs.length
 ·rw [show NW s=false from if_pos h0];have a1:(70:Int)<(s.rs.length:Int):=by omega
  simp only [simprocAttr,-ZA,↓zU,↓zD,zV,zT,zW,xJ,a1];exact .dv
 rw [show NW s=(s.rs.all Yy&&(decide (chk s≠0) || decide (s.rs.length*s.ln.toNat<=40))) from if_neg h0];have a1:¬ (70:Int)<(s.rs.length:Int):=by omega
 simp only [simprocAttr,-ZA,↓zU,↓zD,zV,zT,zW,xJ,a1]
 refine xT (λk:Nat=>[(3,.int .i64 k),(1,.ref 0 4 0 0)]) (λ_=>⟨1,[(0,⟨4,[[.int .i64 s.ag,.int .i64 s.fa,.int .i64 s.ln,.sl 2 (zL s.rs)]]⟩)]⟩)
  (λk=>k<=s.rs.length/\s.rs.all Yy=(s.rs.drop k).all Yy) (λk=>s.rs.length-k) 0 ⟨An _,rfl⟩ ?_ ?_
 ·(refine xN.same ?_; simp [xQ,Fr.get])
 intro k ⟨hk,hi⟩;refine xO mixed ?_;by_cases hkl:k<s.rs.length
 case neg=>
  have hd:¬ ((k:Int)<(s.rs.length:Int)):=by omega
  rw [χ (by omega),Aa] at hi;rw [hi,γ];simp only [simprocAttr,-ZA,↓zU,↓zD,zV,zT,zW,xJ,hd]
  (repeat refine sd ?_)
  refine .go (cq hC) ?_;by_cases hz:chk s=0
  case neg=>
   have e:(chk s != 0)= true:=by simpa using hz
   simp only [simprocAttr,-ZA,↓zU,↓zD,zV,zT,zW,e];exact .drop (by simp) (by simp [vw,hz])
  have e:(chk s != 0)= false:=by simpa using hz
  obtain⟨A,F,T,rs,rfl,ok⟩:=lV hz;have hRT:=ok.hP
  have hm:IntKind.i64.wrap ((rs.length:Int)* (T:Int))= ((rs.length*T:Nat):Int):=by rw [<- Int.natCast_mul]; exact wrap_i64 (by omega)
  have hdd:decide (((rs.length*T:Nat):Int)<=40)= decide (rs.length*T<=40):=by rw [ζ,decide_eq_true_iff,decide_eq_true_iff]; omega
  simp only [simprocAttr,-ZA,↓zU,↓zD,zV,zT,zW,e,xJ,hm]
  (repeat refine sd ?_)
  rw [hdd];exact .drop (by simp) (by simp [vw,hz])
 have hd:((k:Int)<(s.rs.length:Int)):=by omega
 rw [drop_one (d:=tX) hkl,ω] at hi;have hg:=vF s.rs hkl;generalize s.rs.getD k tX=r at hg hi
 by_cases c1:(20:Int)<(r.loc.length:Int)
 ·rw [show Yy r=false by simp [Yy]; omega,δ] at hi;rw [hi];simp only [simprocAttr,-ZA,↓zU,↓zD,zV,zT,zW,xJ,hd,hg,xG.row,yD,c1]
  (repeat refine sd ?_)
  exact .dv
 by_cases c2:(20:Int)<(r.fac.length:Int)
 ·rw [show Yy r=false by simp [Yy]; omega,δ] at hi;rw [hi];simp only [simprocAttr,-ZA,↓zU,↓zD,zV,zT,zW,xJ,hd,hg,xG.row,yD,c1,xI,c2]
  (repeat refine sd ?_)
  exact .dv
 have hfr:Yy r=r.loc.all λl=>decide (l.length<=20):=by unfold Yy; rw [decide_eq_true (by omega),decide_eq_true (by omega)]; rfl
 simp only [simprocAttr,-ZA,↓zU,↓zD,zV,zT,zW,xJ,hd,hg,xG.row,yD,c1,xI,c2]
 (repeat refine sd ?_)
 refine xT (λt:Nat=>[(4,.int .i64 t),(3,.int .i64 k),(1,.ref 0 4 0 0)]) (λ_=>⟨1,[(0,⟨4,[[.int .i64 s.ag,.int .i64 s.fa,.int .i64 s.ln,.sl 2 (zL s.rs)]]⟩)]⟩)
  (λt=>t<=r.loc.length/\Yy r=(r.loc.drop t).all λl=>decide (l.length<=20)) (λt=>r.loc.length-t) 0 ⟨An _,hfr⟩ ?_ ?_
 ·(refine xN.same ?_; simp [xQ,Fr.get])
 intro t ⟨ht,hb⟩;refine xO mixed ?_;by_cases htl:t<r.loc.length
 case neg=>
  have hd2:¬ ((t:Int)<(r.loc.length:Int)):=by omega
  rw [χ (by omega),Aa] at hb;simp only [simprocAttr,-ZA,↓zU,↓zD,zV,zT,zW,xJ,hd,hg,xG.row,yD,hd2]
  (repeat refine sd ?_)
  refine⟨k+1,⟨by omega,by rw [hi,hb,γ]⟩,?_,by omega⟩
  (refine xN.same ?_; simp only [xQ,Fr.get,simprocAttr,-ZA,zS])
  exact wrap_i64 (by omega)
 have hd2:((t:Int)<(r.loc.length:Int)):=by omega
 rw [drop_one (d:=[]) htl,ω] at hb;have hgu:=tH r.loc htl;generalize r.loc.getD t []=x at hgu hb
 by_cases hx:(20:Int)<(x.length:Int)
 ·rw [decide_eq_false (by omega),δ] at hb;rw [hi,hb,δ,δ];simp only [simprocAttr,-ZA,↓zU,↓zD,zV,zT,zW,xJ,hd,hg,xG.row,yD,hd2,hgu,yZ,hx]
  (repeat refine sd ?_)
  exact .dv
 rw [decide_eq_true (by omega),γ] at hb;simp only [simprocAttr,-ZA,↓zU,↓zD,zV,zT,zW,xJ,hd,hg,xG.row,yD,hd2,hgu,yZ,hx]
 (repeat refine sd ?_)
 refine⟨t+1,⟨by omega,hb⟩,?_,by omega⟩
 (refine xN.same ?_; simp only [xQ,Fr.get,simprocAttr,-ZA,zS])
 exact wrap_i64 (by omega)
namespace Te
def btR (l:List (List Bool)):List (List D):=l.map λr=>[.sl 1 (rbR r)]
theorem Zm (l:List (List Bool)):(btR l).length=l.length:=by simp [btR]
theorem QA {l:List (List Bool)} {i:Nat} (h:i<l.length):(btR l).getD i [] = [.sl 1 (rbR (l.getD i []))]:=by simp [btR,List.getD,h]
def fP (s:tZ) (f:List Nd):List (List Bool):=if gV s f≠0 then [] else(List.range s.rs.length).map λi=>(List.range s.ln.toNat).map λt=>u7 s.rs s.ag.toNat s.ln.toNat f (i,t)
theorem WS (s:tZ) (f:List Nd):iD s f=btR (fP s f):=by
 unfold iD fP
 split
 ·rfl
 ·simp [btR,zI]
theorem pd (s:tZ) (f:List Nd):(fP s f).length<=64/\∀ r ∈ fP s f,r.length<=16:=by
 unfold fP
 by_cases h:gV s f=0
 ·rw [if_neg (by simpa using h)];obtain⟨A,F,T,rs,rfl,ok⟩:=lV (kZ h).1;refine⟨by simp; exact ok.hR.2,λr hr=>?_⟩;simp only [ο,ξ] at hr;obtain⟨i,_,rfl⟩:=hr;simp;exact ok.hT.2
 ·rw [if_pos h]; simp
def Yn (s:tZ) (f:List Nd):Bool:=decide (gV s f=0)&& (fP s f).all λr=>r.all λb=>b
end Te
theorem Q3 (s:tZ) (f:List Nd):zX prog 49 [s.d,.sl 6 (ndR f)] (.tup [.bool (Yn s f),.int .i64 (gV s f)]):=by
 have hD:s.d = .agg [.int .i64 s.ag,.int .i64 s.fa,.int .i64 s.ln,.sl 2 (zL s.rs)]:=rfl;have hH:=kg s f;obtain⟨l64,l16⟩:=pd s f;rw [WS] at hH;unfold Yn;rw [hD] at hH ⊢;by_cases hE:gV s f=0
 case neg=>
  have e:(gV s f != 0)= true:=by simpa using hE
  refine xY.xP mixed func49 k49 (by simp) λhf=>?_;simp only [simprocAttr,-ZA,↓zU,↓zD,zV,zT,zW]
  (repeat refine sd ?_)
  refine .go (cr hH) ?_;simp only [simprocAttr,-ZA,↓zU,↓zD,zV,zT,zW,e];exact .drop (by simp) (by simp [vw,vwL,hE])
 rw [hE] at hH ⊢;rw [decide_eq_true rfl,γ];generalize fP s f=l at hH l64 l16;refine xY.xP mixed func49 k49 (by simp) λhf=>?_;simp only [simprocAttr,-ZA,↓zU,↓zD,zV,zT,zW]
 (repeat refine sd ?_)
 refine .go (cr hH) ?_;simp only [simprocAttr,-ZA,↓zU,↓zD,zV,zT,zW,Zm]
 refine xT (λi:Nat=>[(23,.int .i64 i),(22,.int .i64 l.length),(21,.sl 1 (btR l))]) (λ_=>⟨0,[]⟩) (λi=>i<=l.length/\(l.all λr=>r.all λb=>b)= ((l.drop i).all λr=>r.all λb=>b)) (λi=>l.length-i) 0 ⟨An _,rfl⟩ ?_ ?_
 ·(refine xN.view (λk=>k) (by simp) (by simp) ?_ (by simp [stays]) (by simp [uQ]); simp [vwF,vw,vwL,Fr.get])
 rintro i ⟨hi,hk⟩;refine xO mixed ?_;by_cases hil:i<l.length
 case neg=>
  have hd:¬ ((i:Int)<(l.length:Int)):=by omega
  rw [χ (by omega),Aa] at hk;rw [hk];simp only [simprocAttr,-ZA,↓zU,↓zD,zV,zT,zW,hd];exact .drop (by simp) (by simp [vw,vwL])
 have hd:((i:Int)<(l.length:Int)):=by omega
 have hg:=QA hil;have h16:=l16 _ (xR (d:=[]) hil);rw [drop_one (d:=[]) hil,ω] at hk;generalize l.getD i []=r at hg h16 hk;simp only [simprocAttr,-ZA,↓zU,↓zD,zV,zT,zW,hd,Zm,hg,wW]
 (repeat refine sd ?_)
 refine xT (λt:Nat=>[(29,.int .i64 t),(28,.int .i64 r.length),(27,.sl 1 (rbR r)),(23,.int .i64 i),(22,.int .i64 l.length),(21,.sl 1 (btR l))]) (λ_=>⟨0,[]⟩) (λt=>t<=r.length/\(r.all λb=>b)= ((r.drop t).all λb=>b)) (λt=>r.length-t) 0 ⟨An _,rfl⟩ ?_ ?_
 ·(refine xN.same ?_; simp [xQ,Fr.get])
 rintro t ⟨ht,hm⟩;refine xO mixed ?_;by_cases htl:t<r.length
 case neg=>
  have hd2:¬ ((t:Int)<(r.length:Int)):=by omega
  rw [χ (by omega),Aa] at hm;rw [hm,γ] at hk;simp only [simprocAttr,-ZA,↓zU,↓zD,zV,zT,zW,hd2];refine⟨i+1,⟨by omega,hk⟩,?_,by omega⟩
  (refine xN.same ?_; simp only [xQ,Fr.get,simprocAttr,-ZA,zS])
  exact yB (by omega)
 have hd2:((t:Int)<(r.length:Int)):=by omega
 have hgt:=RH htl;rw [drop_one (d:=false) htl,ω] at hm;generalize r.getD t false=b at hgt hm
 cases b with
 | true=>
  rw [γ] at hm;simp only [simprocAttr,-ZA,↓zU,↓zD,zV,zT,zW,hd2,wW,hgt]
  (repeat refine sd ?_)
  refine⟨t+1,⟨by omega,hm⟩,?_,by omega⟩
  (refine xN.same ?_; simp only [xQ,Fr.get,simprocAttr,-ZA,zS])
  exact yB (by omega)
 | false=>
  rw [δ] at hm;rw [hk,hm,δ];simp only [simprocAttr,-ZA,↓zU,↓zD,zV,zT,zW,hd2,wW,hgt]
  (repeat refine sd ?_)
  exact .drop (by simp) (by simp [vw,vwL])
open Rs Fm Ru Te
namespace Te
def evT (rs:List xG) (A T:Nat):Tr->Tab
 | .nil=>λ_=>false
 | .nd op i e g x y=>zH rs A T ⟨op,i,e,g,0,0⟩ (evT rs A T x) (evT rs A T y)
theorem rv {rs:List xG} {A T:Nat} {n m:Nd} {x y x' y':Tab} (h1:n.op=m.op) (h2:n.i=m.i) (h3:n.g=m.g) (hx:(xV n.op).1.x=true->x=x') (hy:(xV n.op).1.y=true->y=y') :
  zH rs A T n x y=zH rs A T m x' y':=by
 obtain⟨op,i,e,g,a,b⟩:=n;obtain⟨op',i',e',g',a',b'⟩:=m;simp only at h1 h2 h3 hx hy;subst h1 h2 h3;rcases kR op with rfl | rfl | rfl | rfl | rfl | rfl | rfl | rfl | rfl | rfl | rfl | rfl | rfl | rfl | rfl | rfl | rfl | rfl | rfl | rfl | rfl | h | h
 all_goals first
  | (have hx':=hx rfl; have hy':=hy rfl; subst hx' hy'; rfl)
  | (have hx':=hx rfl; subst hx'; rfl)
  | rfl
  | (unfold zH yz; simp only; funext p; repeat rw [if_neg (by omega)])
theorem kC {rs:List xG} {A T:Nat} {c:List Nd} {k:Nat}:∀ (m:Nat) {i:Nat},i<k->(wS rs A T c (k+m)).getD i (λ_=>false)= (wS rs A T c k).getD i λ_=>false
 | 0,_,_=>rfl
 | m+1,i,h=>by rw [show k+(m+1)= (k+m)+ 1 from rfl,wS,List.getD,List.getElem?_append_left (by rw [qP]; omega)];exact kC m h
theorem ZQ {rs:List xG} {A T:Nat} {c:List Nd} {k n:Nat} (h:k<n):(wS rs A T c n).getD k (λ_=>false)= zH rs A T (c.getD k nd0) ((wS rs A T c k).getD (c.getD k nd0).x.toNat λ_=>false) ((wS rs A T c k).getD (c.getD k nd0).y.toNat λ_=>false):=by obtain⟨m,rfl⟩:=Ak (show k+1<=n by omega);rw [kC m (by omega),wS,List.getD,List.getElem?_append_right (by rw [qP]; omega),qP,Nat.sub_self];rfl
theorem p4 {rs:List xG} {A T:Nat} {c:List Nd} (hv:wJ c) {n:Nat} (hn:n<=c.length):∀ (i:Nat),i<n->(wS rs A T c n).getD i (λ_=>false)= evT rs A T (tree c i):=by
 intro i
 induction i using Nat.strongRecOn with
 | _ i ih=>
  intro hi;obtain⟨ox,oy,_,_⟩:=uZ (hv i (by omega));rw [ZQ hi,tV hv (by omega)];show _=zH _ _ _ _ _ _
  refine rv rfl rfl rfl (λhx=>?_) λhy=>?_
  ·have:=ox hx;obtain⟨m,hm⟩:=Ak (show i<=n by omega);rw [if_pos hx,<- ih _ (by omega) (by omega),hm,kC m (by omega)]
  ·have:=oy hy;obtain⟨m,hm⟩:=Ak (show i<=n by omega);rw [if_pos hy,<- ih _ (by omega) (by omega),hm,kC m (by omega)]
theorem a8 {rs:List xG} {A T:Nat} {f:List Nd} (h:yN f=0):u7 rs A T f=evT rs A T (oW f):=by unfold u7;have:=iI h;rw [p4 (gx f) (Al _) _ (by omega),(gZ h).1]
def okN (A F:Nat) (p:Nd):Bool:=decide (fU p &&& 3824=0)&& decide (qQ p / 2 ^ A=0)&& decide (yy p / 2 ^ F=0)
theorem qL {m:Nd->Nat} {φ:Nat->Nat} (h0:φ 0=0) (h:∀ a b,φ (a ||| b)= φ a ||| φ b) (l:List Nd):φ (vD m l)= vD (λp=>φ (m p)) l:=by
 have key:∀ (l:List Nd) (a:Nat),φ (l.foldl (λa p=>a ||| m p) a)= l.foldl (λa p=>a ||| φ (m p)) (φ a):=by
  intro l
  induction l with
  | nil=>intro a; rfl
  | cons p r ih=>intro a; rw [List.foldl_cons,List.foldl_cons,ih,h]
 unfold vD;rw [key,h0]
theorem vx {n:Nat} (h:n<4096):(pJ .andNot .i64 (n:Int) 271 != 0)= !decide (n &&& 3824=0):=by
 have:∀ n:Fin 4096,(pJ .andNot .i64 ((n.val:Nat):Int) 271 != 0)= !decide (n.val &&& 3824=0):=by decide +kernel
 exact this ⟨n,h⟩
theorem RM {s:tZ} {A F T:Nat} {rs:List xG} (hs:s=⟨A,F,T,rs⟩) (hz:chk s=0) (ok:OkR rs A F T) {f:List Nd} (hc:yN f=0):gV s f=0 ↔ ∀ p ∈ xB f,okN A F p=true:=by
 have hlt:zC f<4096:=by refine eV λp _=>?_;have:=yt p.op;unfold fU; omega
 have e1:(zC f &&& 3824=0) ↔ ∀ p ∈ xB f,fU p &&& 3824=0:=by unfold zC;rw [qL (φ:=λn=>n &&& 3824) (by decide) (λa b=>Nat.and_or_distrib_right a b 3824),rR]
 have dv:∀ n a b:Nat,(a ||| b)/ 2 ^ n=a / 2 ^ n ||| b / 2 ^ n:=λn a b=>by rw [<- Am,<- Am,<- Am,Nat.shiftRight_or_distrib]
 have e2:oH f / 2 ^ A=0 ↔ ∀ p ∈ xB f,qQ p / 2 ^ A=0:=by unfold oH;rw [qL (φ:=λn=>n / 2 ^ A) (by simp) (dv A),rR]
 have e3:bA f / 2 ^ F=0 ↔ ∀ p ∈ xB f,yy p / 2 ^ F=0:=by unfold bA;rw [qL (φ:=λn=>n / 2 ^ F) (by simp) (dv F),rR]
 have hA:=ok.hA;have hF:=ok.hF
 have ef:sU f s.ag s.fa=true ↔ oH f / 2 ^ A=0/\bA f / 2 ^ F=0:=by
  subst hs;unfold sU iB;simp only [ε,Bool.or_eq_true,decide_eq_true_eq,Int.toNat_natCast]
  constructor
  ·rintro ⟨⟨_,h1⟩,h2⟩; exact⟨h1.resolve_left (by omega),h2.resolve_left (by omega)⟩
  ·rintro ⟨h1,h2⟩; exact⟨⟨hc,.inr h1⟩,.inr h2⟩
 unfold gV;rw [if_neg (by simpa using hz),if_neg (by simpa using hc),vx hlt]
 constructor
 ·intro h p hp
  by_cases c:zC f &&& 3824=0
  ·rw [if_neg (by simp [c])] at h
   cases h2:sU f s.ag s.fa with
   | false=>rw [h2,if_pos rfl] at h; cases h
   | true=> have h3:=ef.1 h2;unfold okN;simp only [ε,decide_eq_true_eq];exact⟨⟨e1.1 c p hp,e2.1 h3.1 p hp⟩,e3.1 h3.2 p hp⟩
  ·rw [if_pos (by simp [c])] at h; cases h
 ·intro h;have h':∀ p ∈ xB f,(fU p &&& 3824=0/\qQ p / 2 ^ A=0)/\ yy p / 2 ^ F=0:=λp hp=>by simpa [okN] using h p hp
  have c:zC f &&& 3824=0:=e1.2 λp hp=>(h' p hp).1.1;rw [if_neg (by simp [c]),ef.2 ⟨e2.2 λp hp=>(h' p hp).1.2,e3.2 λp hp=>(h' p hp).2⟩,if_neg (by decide)]
end Te
namespace Fm
end Fm
namespace Te
end Te
open Rs Fm Ru Te
namespace Te
def PL (φ:Nat->Bool):Nat->BitVec 64
 | 0=>0#64
 | k+1=>PL φ k ||| (if φ k=true then 1#64 <<< k else 0#64)
theorem cz {φ:Nat->Bool}:∀ (k i:Nat),k<=64->(PL φ k).getLsbD i=(decide (i<k)&& φ i)
 | 0,i,_=>by simp [PL]
 | k+1,i,hk=>by
  unfold PL;rw [Aj,cz k i (by omega)]
  by_cases e:i=k
  ·subst e
   cases hb:φ i
   ·simp
   ·rw [if_pos rfl,rI (by omega)];simp
  ·have h2:(if φ k=true then 1#64 <<< k else 0#64).getLsbD i=false:=by
    split
    ·rw [rI (by omega)]; exact decide_eq_false e
    ·exact Ag
   rw [h2,η];congr 1;exact decide_eq_decide.2 (by omega)
def pB (T W:Nat) (x:Tab):BitVec 64:=PL (λw=>x (pt T w)) W
theorem yS {T W:Nat} {x:Tab} (hW:W<=64) (i:Nat):(pB T W x).getLsbD i=(decide (i<W)&& x (pt T i)):=cz W i hW
theorem iZ {a b:BitVec 64} (h:∀ i,i<64->a.getLsbD i=b.getLsbD i):a=b:=BitVec.eq_of_getLsbD_eq h
theorem bf (r:List (BitVec 64)) (s:BitVec 64):∀ (k i:Nat),k<=64->(af r s k).getLsbD i=(decide (i<k)&& (r.getD i 0 &&& ~~~s==0#64))
 | 0,i,_=>by simp [af]
 | k+1,i,hk=>by
  unfold af
  have e1:(if (r.getD k 0 &&& ~~~s==0#64)= true then af r s k ||| 1#64 <<< k else af r s k)= af r s k ||| (if (r.getD k 0 &&& ~~~s==0#64)= true then 1#64 <<< k else 0#64):=by
   split
   ·rfl
   ·exact BitVec.or_zero.symm
  rw [e1,Aj,bf r s k i (by omega)]
  by_cases e:i=k
  ·subst e
   cases hb:(r.getD i 0 &&& ~~~s==0#64)
   ·simp
   ·rw [if_pos rfl,rI (by omega)];simp
  ·have h2:(if (r.getD k 0 &&& ~~~s==0#64)= true then 1#64 <<< k else 0#64).getLsbD i=false:=by
    split
    ·rw [rI (by omega)]; exact decide_eq_false e
    ·exact Ag
   rw [h2,η];congr 1;exact decide_eq_decide.2 (by omega)
theorem YL {a s:BitVec 64}:(a &&& ~~~s==0#64)= true ↔ ∀ v,v<64->a.getLsbD v=true->s.getLsbD v=true:=by
 rw [beq_iff_eq]
 constructor
 ·intro h v hv ha;have:=congrArg (·.getLsbD v) h;simp only [Ai,Ah,ha,hv,Ag] at this;simpa using this
 ·intro h;refine iZ λv hv=>?_;rw [Ai,Ah,Ag]
  cases ha:a.getLsbD v
  ·rfl
  ·rw [h v hv ha]; simp
theorem Yj {rs:List xG} {T v:Nat} (h:v<rs.length*T):(ptl rs T).getD v (0,0)= pt T v:=yj T h
theorem Q4 {rs:List xG} {T:Nat} {P:Nat × Nat->Bool}:(ptl rs T).all P=true ↔ ∀ v,v<rs.length*T->P (pt T v)= true:=by
 rw [τ]
 constructor
 ·intro h v hv;refine h _ ?_;unfold ptl ptN;exact ο.2 ⟨v,ξ.2 hv,rfl⟩
 ·intro h q hq;unfold ptl ptN at hq;obtain⟨v,hv,rfl⟩:=ο.1 hq;exact h v (ξ.1 hv)
def S6 (rs:List xG) (T:Nat) (r:List (BitVec 64)) (ρ:Nat × Nat->Nat × Nat->Bool):Prop:= r.length=rs.length*T/\∀ w,w<rs.length*T->∀ v,(r.getD w 0).getLsbD v=(decide (v<rs.length*T)&& ρ (pt T w) (pt T v))
theorem eX {rs:List xG} {T:Nat} (hW:rs.length*T<=64) {r:List (BitVec 64)} {ρ:Nat × Nat->Nat × Nat->Bool} (h:S6 rs T r ρ) {s:BitVec 64} {x:Tab} (hs:∀ v,v<rs.length*T->s.getLsbD v=x (pt T v)) :
  uu r s=pB T (rs.length*T) λp=>(ptl rs T).all λq=>!ρ p q || x q:=by
 obtain⟨hl,hr⟩:=h;refine iZ λi _=>?_;rw [yS hW,uu,bf r s _ i (by omega),hl]
 by_cases hi:i<rs.length*T
 ·rw [decide_eq_true hi,γ,γ,ζ,YL,Q4]
  constructor
  ·intro h v hv
   cases e:ρ (pt T i) (pt T v) with
   | false=>rfl
   | true=> have:=h v (by omega) (by rw [hr i hi v,decide_eq_true hv,e]; rfl);rw [hs v hv] at this;simpa using this
  ·intro h v _ ha;rw [hr i hi v,ε] at ha;have hv:=of_decide_eq_true ha.1;have:=h v hv;rw [ha.2] at this;rw [hs v hv];simpa using this
 ·rw [decide_eq_false hi,δ,δ]
section
variable {rs : List xG} {A F T : Nat}
theorem ff {a:Nat} (ha:a<A) (hW:rs.length*T<=64):S6 rs T ((pA rs (ptl rs T) A F).R.getD a []) λp q=>decide (yJ rs a q=yJ rs a p):=by
 have hl:(ptl rs T).length=rs.length*T:=vR T _
 have hg:(pA rs (ptl rs T) A F).R.getD a []=rC rs (ptl rs T) a:=by show (qH rs (ptl rs T) A).getD a []=_;simp [qH,List.getD,ha]
 rw [hg];refine⟨by simp [rC,hl],λw hw v=>?_⟩
 have hw':(rC rs (ptl rs T) a).getD w 0=Ru.fY rs (ptl rs T) a (yJ rs a (pt T w)) (rs.length*T):=by
  have h1:w<(ptl rs T).length:=by omega
  have h2:=Yj (rs:=rs) hw;rw [List.getD,υ h1] at h2;simp only [Option.getD_some] at h2;simp only [rC,List.getD,List.getElem?_map,υ h1,Option.map_some,Option.getD_some,h2,hl]
 rw [hw',kV _ _ hW]
 by_cases hv:v<rs.length*T
 ·rw [decide_eq_true hv,Yj hv]
 ·rw [decide_eq_false hv,δ,δ]
theorem eA {m:qF} {W:Nat} (ok:lE m W) (hW:rs.length*T=W) (hR:m.R.length=A) {g:Nat} (hg:1<=g/\g<2 ^ m.R.length) (meet:Bool) (hk:∀ a,a<A->S6 rs T (m.R.getD a []) λp q=>decide (yJ rs a q=yJ rs a p)) :
  S6 rs T (wO m g meet) λp q=>if meet=true then XK rs A g p q else SB rs A g p q:=by
 obtain⟨⟨a0,ha0,hb0⟩,hl,hv⟩:=cL ok hg meet;refine⟨by rw [hl,hW],λw hw v=>?_⟩;rw [hv w (by omega) v];unfold Yw;rw [hR] at ha0 ⊢
 have hbit:∀ a,a<A->((m.R.getD a []).getD w 0).getLsbD v=(decide (v<rs.length*T)&& decide (yJ rs a (pt T w)= yJ rs a (pt T v))):=λa ha=>by rw [(hk a ha).2 w hw v];congr 1;exact decide_eq_decide.2 ⟨λh=>h.symm,λh=>h.symm⟩
 cases meet with
 | true=>
  show _=(decide (v<rs.length*T)&& XK rs A g (pt T w) (pt T v));rw [if_pos rfl];unfold XK
  by_cases hvw:v<rs.length*T
  ·rw [decide_eq_true hvw,γ];refine eZ λa ha=>?_;rw [hbit a (ξ.1 ha),decide_eq_true hvw,γ]
  ·rw [decide_eq_false hvw,δ];refine κ.2 λh=>?_;rw [τ] at h;have:=h a0 (ξ.2 ha0);rw [hb0,hbit a0 ha0,decide_eq_false hvw] at this;simp at this
 | false=>
  show _=(decide (v<rs.length*T)&& SB rs A g (pt T w) (pt T v));rw [if_neg (by decide)];unfold SB
  by_cases hvw:v<rs.length*T
  ·rw [decide_eq_true hvw,γ,ζ,Ab,Ab]
   constructor
   ·rintro ⟨a,ha,h⟩;refine⟨a,ha,?_⟩
    rwa [hbit a (ξ.1 ha),decide_eq_true hvw,γ] at h
   ·rintro ⟨a,ha,h⟩;refine⟨a,ha,?_⟩
    rwa [hbit a (ξ.1 ha),decide_eq_true hvw,γ]
  ·rw [decide_eq_false hvw,δ];refine κ.2 λh=>?_;rw [Ab] at h;obtain⟨a,ha,h⟩:=h;rw [hbit a (ξ.1 ha),decide_eq_false hvw] at h;simp at h
theorem qm {g:Nat} {x:Tab} {p:Nat × Nat}:uS rs A T g x p=(ptl rs T).all λq=>!SB rs A g p q || x q:=by
 rw [ζ,Xt,τ]
 constructor
 ·intro h q hq
  cases e:SB rs A g p q with
  | false=>rfl
  | true=>rw [h q hq e]; rfl
 ·intro h q hq e;have:=h q hq;rw [e] at this;simpa using this
theorem ar {W T:Nat} (hW:W<=64):oZ W=pB T W λ_=>true:=by refine iZ λi hi=>?_;rw [rG hW hi,yS hW,ν]
theorem mY {m:qF} {W:Nat} (ok:lE m W) (hW:rs.length*T=W) (hR:m.R.length=A) {g:Nat} (hg:1<=g/\g<2 ^ m.R.length) (hk:∀ a,a<A->S6 rs T (m.R.getD a []) λp q=>decide (yJ rs a q=yJ rs a p)) (x y:Tab) :
  ∀ n,lF (wO m g false) (oZ W) (pB T W x) (pB T W y) n=pB T W (tY rs A T g x y n)
 | 0=>by have:=ok.hW; exact ar this.2
 | n+1=>by
  have hW64:=ok.hW.2;show uu _ _=_;rw [mY ok hW hR hg hk x y n];have hrel:=eA ok hW hR hg false hk
  rw [eX (by omega) hrel (x:=λq=>!x q || (y q&&tY rs A T g x y n q)) λv hv=>?_]
  ·rw [hW];congr 1;funext p;simp only [Bool.false_eq_true,↓reduceIte];rw [<- qm];rfl
  ·rw [hW] at hv;simp only [Aj,Ai,Ah,rG hW64 (show v<64 by omega),yS hW64,decide_eq_true hv,decide_eq_true (show v<64 by omega),γ]
end
end Te
open Rs Fm Ru Te
namespace Te
def qV (A F:Nat) (n:Nd):Bool:= if n.op<1 then false else if n.op=3 then decide (n.i<(F:Int)) else if n.op<=8 then true else if n.op<=10 then decide (n.i<(A:Int)) else if n.op<=13 then decide (n.g<((2 ^ A:Nat):Int)) else false
theorem Uu {A F:Nat} {n:Nd} (h:n.op<1\/21<n.op):qV A F n=false:=by rcases h with h | h <;> unfold qV <;> repeat (first | rw [if_pos (by omega)] | rw [if_neg (by omega)])
theorem Rf {m:qF} {W:Nat} {n:Nd} {x y:BitVec 64} (h:n.op<1\/21<n.op):pG m W n x y=(0#64,false):=by unfold pG; repeat rw [if_neg (by omega)]
theorem iS {T W:Nat} {x y:Tab} (h:∀ v,v<W->x (pt T v)= y (pt T v)) (hW:W<=64):pB T W x=pB T W y:=by
 refine iZ λi _=>?_;rw [yS hW,yS hW]
 by_cases hi:i<W
 ·rw [h i hi]
 ·rw [decide_eq_false hi,δ,δ]
theorem RF {rs:List xG} {T v:Nat} (hv:v<rs.length*T):pt T v ∈ ptl rs T:=by unfold ptl ptN;exact ο.2 ⟨v,ξ.2 hv,rfl⟩
theorem TL (rs:List xG) (A T g:Nat) (x y:Tab) {p:Nat × Nat} (hp:p ∈ ptl rs T):tY rs A T g x y (rs.length*T+1) p=tY rs A T g x y (rs.length*T) p:=by obtain⟨n,h1,h2⟩:=bh (rs:=rs) (A:=A) (T:=T) g x y;obtain⟨m,hm⟩:=Ak h1;rw [hm,qM h2 m p hp,show n+m+1=n+(m+1) by omega,qM h2 (m+1) p hp]
section
variable {rs : List xG} {A F T : Nat}
theorem QF (ok:OkR rs A F T) (hW:rs.length*T<=64) {g:Nat} (hg:1<=g/\g<2 ^ A) (x y:Tab) :
  lF (wO (pA rs (ptl rs T) A F) g false) (oZ (rs.length*T)) (pB T (rs.length*T) x) (pB T (rs.length*T) y) (rs.length*T+1)= lF (wO (pA rs (ptl rs T) A F) g false) (oZ (rs.length*T)) (pB T (rs.length*T) x) (pB T (rs.length*T) y) (rs.length*T):=by
 have hl:(ptl rs T).length=rs.length*T:=vR T _;have h1:1<=rs.length*T:=Ap ok.hR.1 ok.hT.1;have hm:=yf (F:=F) ok (l:=ptl rs T) (by omega) (by omega);rw [hl] at hm;have hRl:(pA rs (ptl rs T) A F).R.length=A:=by show (qH rs (ptl rs T) A).length=A; simp [qH]
 have hk:∀ a,a<A->S6 rs T ((pA rs (ptl rs T) A F).R.getD a []) λp q=>decide (yJ rs a q=yJ rs a p):=λa ha=>ff ha hW;rw [mY hm rfl hRl (by rw [hRl]; exact hg) hk,mY hm rfl hRl (by rw [hRl]; exact hg) hk];exact iS (λv hv=>TL rs A T g x y (RF hv)) hW
theorem VC (ok:OkR rs A F T) (hW:rs.length*T<=64) {n:Nd} {k:Int} (hn:zG n k=0) {x y:BitVec 64} {tx ty:Tab} (hx:(xV n.op).1.x=true->x=pB T (rs.length*T) tx) (hy:(xV n.op).1.y=true->y=pB T (rs.length*T) ty) :
  pG (pA rs (ptl rs T) A F) (rs.length*T) n x y=if qV A F n=true then(pB T (rs.length*T) (zH rs A T n tx ty),true) else(0#64,false):=by
 have hl:(ptl rs T).length=rs.length*T:=vR T _;have h1:1<=rs.length*T:=Ap ok.hR.1 ok.hT.1;have hm:=yf (F:=F) ok (l:=ptl rs T) (by omega) (by omega);rw [hl] at hm;have hRl:(pA rs (ptl rs T) A F).R.length=A:=by show (qH rs (ptl rs T) A).length=A; simp [qH]
 have hVl:(pA rs (ptl rs T) A F).V.length=F:=by show (lI rs (ptl rs T) F).length=F; simp [lI]
 have hk:∀ a,a<A->S6 rs T ((pA rs (ptl rs T) A F).R.getD a []) λp q=>decide (yJ rs a q=yJ rs a p):=λa ha=>ff ha hW
 have hVg:∀ f,f<F->∀ i,((pA rs (ptl rs T) A F).V.getD f 0).getLsbD i=(decide (i<rs.length*T)&& (xe rs (pt T i)).getLsbD f):=λf hf i=>by
  have e:(pA rs (ptl rs T) A F).V.getD f 0=qW rs (ptl rs T) f (ptl rs T).length:=by show (lI rs (ptl rs T) F).getD f 0=_;simp [lI,List.getD,hf]
  rw [e,hl,zk _ _ hW]
  by_cases hi:i<rs.length*T
  ·rw [Yj hi]
  ·rw [decide_eq_false hi,δ,δ]
 have hi0:n.op=3\/n.op=9\/n.op=10->0<=n.i:=λh=>by
  rcases h with h | h | h
  ·exact(jC hn (by rw [h]; rfl)).1
  ·exact(uE hn (by rw [h]; rfl)).1
  ·exact(uE hn (by rw [h]; rfl)).1
 have hg0:n.op=11\/n.op=12\/n.op=13->1<=n.g/\n.g<=15:=λh=>by
  have hgr:(xV n.op).1.gr=true:=by rcases h with h | h | h <;> rw [h] <;> rfl
  have h1:=(wI.1 hn).2.2.2.2;simp only [θ,hgr,yX,γ,decide_eq_false_iff_not] at h1;omega
 obtain⟨op,i,e,g,a,b⟩:=n;simp only at hi0 hg0 hx hy;generalize hm':pA rs (ptl rs T) A F=m at *;generalize hWW:rs.length*T=W at *;have fin:∀ {p q:BitVec 64},(∀ v,v<64->p.getLsbD v=q.getLsbD v)->(p,true)= (q,true):=λh=>by rw [iZ h]
 rcases kR op with rfl | rfl | rfl | rfl | rfl | rfl | rfl | rfl | rfl | rfl | rfl | rfl | rfl | rfl | rfl | rfl | rfl | rfl | rfl | rfl | rfl | h | h
 ·show (oZ W,true)= (pB T W λ_=>true,true);rw [ar hW]
 ·show (0#64,true)= (pB T W λ_=>false,true);refine fin λv _=>?_;rw [yS hW,μ,Ag]
 ·have h0:=hi0 (.inl rfl);show (if i<(m.V.length:Int) then(m.V.getD i.toNat 0,true) else(0#64,false))= if decide (i<(F:Int))= true then(pB T W λp=>(xe rs p).getLsbD i.toNat,true) else(0#64,false);rw [hVl]
  by_cases hlt:i<(F:Int)
  ·rw [if_pos hlt,if_pos (decide_eq_true hlt)];refine fin λv _=>?_;rw [hVg i.toNat (by omega),yS hW]
  ·rw [if_neg hlt,if_neg (by simpa using hlt)]
 ·have hx:=hx rfl;show (oZ W &&& ~~~x,true)= (pB T W λp=>!tx p,true);refine fin λv hv=>?_;rw [hx,Ai,Ah,rG hW hv,yS hW,yS hW,decide_eq_true hv];cases decide (v<W) <;> simp
 ·have hx:=hx rfl;have hy:=hy rfl;show (x &&& y,true)= (pB T W λp=>tx p&&ty p,true);refine fin λv hv=>?_;rw [hx,hy,Ai,yS hW,yS hW,yS hW];cases decide (v<W) <;> simp
 ·have hx:=hx rfl;have hy:=hy rfl;show (x ||| y,true)= (pB T W λp=>tx p || ty p,true);refine fin λv hv=>?_;rw [hx,hy,Aj,yS hW,yS hW,yS hW];cases decide (v<W) <;> simp
 ·have hx:=hx rfl;have hy:=hy rfl;show (oZ W &&& ~~~x ||| y,true)= (pB T W λp=>!tx p || ty p,true);refine fin λv hv=>?_;rw [hx,hy,Aj,Ai,Ah,rG hW hv,yS hW,yS hW,yS hW,decide_eq_true hv];cases decide (v<W) <;> simp
 ·have hx:=hx rfl;have hy:=hy rfl;show (oZ W &&& ~~~(x ^^^ y),true)= (pB T W λp=>tx p==ty p,true);refine fin λv hv=>?_;rw [hx,hy,Ai,Ah,BitVec.getLsbD_xor,rG hW hv,yS hW,yS hW,yS hW,decide_eq_true hv];cases decide (v<W) <;> cases tx (pt T v) <;> cases ty (pt T v) <;> rfl
 ·have h0:=hi0 (.inr (.inl rfl));have hx:=hx rfl;show (if i<(m.R.length:Int) then(uu (m.R.getD i.toNat []) x,true) else(0#64,false))= if decide (i<(A:Int))= true then(pB T W (vS rs T i.toNat tx),true) else(0#64,false);rw [hRl]
  by_cases hlt:i<(A:Int)
  ·rw [if_pos hlt,if_pos (decide_eq_true hlt)];have:=eX (by omega) (hk i.toNat (by omega)) (s:=x) (x:=tx) λv hv=>by rw [hx,yS hW,decide_eq_true (by omega),γ]
   rw [this,hWW];rfl
  ·rw [if_neg hlt,if_neg (by simpa using hlt)]
 ·have h0:=hi0 (.inr (.inr rfl));have hx:=hx rfl;show (if i<(m.R.length:Int) then(Pc (m.R.getD i.toNat []) x,true) else(0#64,false))= if decide (i<(A:Int))= true then(pB T W λp=>!vS rs T i.toNat (λq=>!tx q) p,true) else(0#64,false);rw [hRl]
  by_cases hlt:i<(A:Int)
  ·rw [if_pos hlt,if_pos (decide_eq_true hlt)];have hkk:=hk i.toNat (by omega);have:=eX (by omega) hkk (s:= ~~~x) (x:=λq=>!tx q) λv hv=>by rw [hx,Ah,yS hW,decide_eq_true (show v<64 by omega),decide_eq_true (show v<W by omega),γ,γ]
   unfold Pc;rw [this,hkk.1,hWW];refine fin λv hv=>?_;rw [Ai,Ah,rG hW hv,yS hW,yS hW,decide_eq_true hv];show (decide (v<W)&& (true&&!(decide (v<W)&& vS rs T i.toNat (λq=>!tx q) (pt T v))))= _;cases decide (v<W) <;> simp
  ·rw [if_neg hlt,if_neg (by simpa using hlt)]
 ·have h0:=hg0 (.inl rfl);have hx:=hx rfl;show (if g<((2 ^ m.R.length:Nat):Int) then(uu (wO m g.toNat false) x,true) else(0#64,false))= if decide (g<((2 ^ A:Nat):Int))= true then(pB T W (uS rs A T g.toNat tx),true) else(0#64,false);rw [hRl]
  by_cases hlt:g<((2 ^ A:Nat):Int)
  ·rw [if_pos hlt,if_pos (decide_eq_true hlt)];have hrel:=eA hm hWW hRl (g:=g.toNat) (by rw [hRl]; omega) false hk;have:=eX (by omega) hrel (s:=x) (x:=tx) λv hv=>by rw [hx,yS hW,decide_eq_true (by omega),γ]
   rw [this,hWW];refine congrArg (λz=>(z,true)) (iS (λv _=>?_) hW);rw [qm];rfl
  ·rw [if_neg hlt,if_neg (by simpa using hlt)]
 ·have h0:=hg0 (.inr (.inl rfl));have hx:=hx rfl;show (if g<((2 ^ m.R.length:Nat):Int) then(uu (wO m g.toNat true) x,true) else(0#64,false))= if decide (g<((2 ^ A:Nat):Int))= true then(pB T W (bP rs A T g.toNat tx),true) else(0#64,false);rw [hRl]
  by_cases hlt:g<((2 ^ A:Nat):Int)
  ·rw [if_pos hlt,if_pos (decide_eq_true hlt)];have hrel:=eA hm hWW hRl (g:=g.toNat) (by rw [hRl]; omega) true hk;have:=eX (by omega) hrel (s:=x) (x:=tx) λv hv=>by rw [hx,yS hW,decide_eq_true (by omega),γ]
   rw [this,hWW];rfl
  ·rw [if_neg hlt,if_neg (by simpa using hlt)]
 ·have h0:=hg0 (.inr (.inr rfl));have hx:=hx rfl;have hy:=hy rfl;show (if g<((2 ^ m.R.length:Nat):Int) then(lF (wO m g.toNat false) (oZ W) x y W,true) else(0#64,false))= if decide (g<((2 ^ A:Nat):Int))= true then(pB T W (sC rs A T g.toNat tx ty),true) else(0#64,false);rw [hRl]
  by_cases hlt:g<((2 ^ A:Nat):Int)
  ·rw [if_pos hlt,if_pos (decide_eq_true hlt),hx,hy,mY hm hWW hRl (by rw [hRl]; omega) hk];unfold sC;rw [hWW]
  ·rw [if_neg hlt,if_neg (by simpa using hlt)]
 all_goals first
  | rfl
  | (rw [Uu (by first | exact .inl h | exact .inr h),if_neg (by decide)]; exact Rf (by first | exact .inl h | exact .inr h))
end
end Te
open Rs Fm Ru Te
namespace Te
def fZ {α:Type} (L:Nat) (g h:Nat->α) (k:Nat):List α:=(List.range L).map λi=>if i<k then g i else h i
theorem cn {α:Type} (L:Nat) (g h:Nat->α) (k:Nat):(fZ L g h k).length=L:=by simp [fZ]
theorem gK {α:Type} {L:Nat} (g h:Nat->α) (k:Nat) {i:Nat} (hi:i<L) (d:α):(fZ L g h k).getD i d=if i<k then g i else h i:=by simp [fZ,List.getD,hi]
theorem cp {α:Type} (L:Nat) (g h:Nat->α) (k:Nat):(fZ L g h k).set k (g k)= fZ L g h (k+1):=by
 refine Af (by simp [fZ]) λi h1 h2=>?_;rw [List.getElem_set];simp only [fZ,List.getElem_map,List.getElem_range]
 by_cases e:k=i
 ·subst e; rw [if_pos rfl,if_pos (by omega)]
 ·rw [if_neg e]
  by_cases hk:i<k
  ·rw [if_pos hk,if_pos (by omega)]
  ·rw [if_neg hk,if_neg (by omega)]
theorem rn {α:Type} {L:Nat} {g h:Nat->α} {k:Nat} (e:g k=h k):fZ L g h k=fZ L g h (k+1):=by
 unfold fZ;refine π λi _=>?_
 by_cases hk:i<k
 ·rw [if_pos hk,if_pos (by omega)]
 ·rw [if_neg hk]
  by_cases e2:i=k
  ·subst e2; rw [if_pos (by omega),e]
  ·rw [if_neg (by omega)]
theorem rp {α:Type} (L:Nat) (g:Nat->α) (c:α):fZ L g (λ_=>c) 0=List.replicate L c:=by refine Af (by simp [fZ]) λi h1 h2=>by simp [fZ]
theorem cm {α:Type} (L:Nat) (g h:Nat->α):fZ L g h L=(List.range L).map g:=by refine π λf hf=>?_;rw [if_pos (ξ.1 hf)]
def Vi (op:Int):Bool:=(decide (5<=op)&& decide (op<=8)) || decide (op=13)
def okF (f:List Nd) (fv:Nat->Bool) (k:Nat):Bool:=(if 4<=(f.getD k nd0).op then fv (f.getD k nd0).x.toNat else true)&& (if Vi (f.getD k nd0).op=true then fv (f.getD k nd0).y.toNat else true)
end Te
theorem Np {m:qF} {f:List Nd} (hc:yN f=0) (hreq:zX prog 176 [m.d,.sl 6 (ndR f)] (.int .i64 0)) {sv:Nat->BitVec 64} {fv:Nat->Bool}
  (hcall:∀ k,k<f.length->okF f fv k=true->∀ x y,((xV (f.getD k nd0).op).1.x=true->x=sv (f.getD k nd0).x.toNat)->((xV (f.getD k nd0).op).1.y=true->y=sv (f.getD k nd0).y.toNat) ->
   zX prog 177 [m.d,.agg (f.getD k nd0).row,.int .u64 (ui x),.int .u64 (ui y)] (.tup [.int .u64 (ui (sv k)),.bool (fv k)]))
  (hno:∀ k,k<f.length->okF f fv k=false->sv k=0#64/\fv k=false) :
  zX prog 113 [m.d,.sl 6 (ndR f)] (.tup [.sl 1 (us ((List.range f.length).map sv)),.int .i64 0]):=by
 obtain⟨c1,c2,c3⟩:=vX hc;have hn:0<f.length:=Ac.2 c1;unfold qF.d at hreq hcall ⊢;refine xY.xP mixed func113 Km (by simp) λhf=>?_;simp only [simprocAttr,-ZA,↓zU,↓zD,zV,zT,zW]
 (repeat refine sd ?_)
 refine .go (cr hreq) ?_;simp only [simprocAttr,-ZA,↓zU,↓zD,zV,zT,zW,xE]
 (repeat refine sd ?_)
 refine xT (λk:Nat=>[(26,.int .i64 k),(25,.int .i64 f.length),(24,.sl 6 (ndR f)),(8,.osl 2 1 f.length),(7,.osl 1 1 f.length),(2,.ref 0 3 0 0)])
  (λk=>⟨3,[(2,⟨1,rb (fZ f.length fv (λ_=>false) k)⟩),(1,⟨1,us (fZ f.length sv (λ_=>0#64) k)⟩),(0,⟨3,[[.int .i64 m.W,.sl 1 (us m.V),.sl 1 (rr m.R)]]⟩)]⟩)
  (λk=>k<=f.length) (λk=>f.length-k) 0 (An _) ?_ ?_
 ·rw [rp,rp,<- iA,<- pj]
  (refine xN.same ?_; simp [xQ,Fr.get])
 intro k hk;refine xO mixed ?_;by_cases hkl:k<f.length
 case neg=>
  have hd:¬ ((k:Int)<(f.length:Int)):=by omega
  have hke:k=f.length:=by omega
  subst hke;rw [cm,cm];have hlen:((List.range f.length).map sv).length=f.length:=by simp
  generalize (List.range f.length).map sv=l at hlen ⊢;simp only [simprocAttr,-ZA,↓zU,↓zD,zV,zT,zW,hd];refine .drop (by simp) ?_;simp only [vw,vwL];exact⟨rfl,⟨trivial,by decide,by simp,⟨1,us l⟩,rfl,rfl,by simp only [xI]; omega,by rw [<- hlen,<- xI,List.take_length],sF l⟩,trivial,trivial⟩
 have hd:((k:Int)<(f.length:Int)):=by omega
 have hcall:=hcall k hkl;have hno:=hno k hkl;have hnd:=c3 k hkl;have hg:=oL f hkl;have hux:=Oo (f.getD k nd0).op;obtain⟨hox,hoy⟩:=nL hnd;obtain⟨⟨x,hx,hxk⟩,⟨y,hy,hyk⟩⟩:=Y3 hnd;unfold okF at hcall hno;generalize f.getD k nd0=p at hcall hno hnd hg hux hox hoy hx hy;obtain⟨op,i,e,g,px,py⟩:=p;simp only at hx hy;subst hx hy;have hrow:(Nd.row ⟨op,i,e,g,x,y⟩)= [.int .i64 op,.int .i64 i,.int .i64 e,.int .i64 g,.int .i64 x,.int .i64 y]:=rfl;rw [hrow] at hg hcall;have hxl:x<f.length:=by omega
 have hyl:y<f.length:=by omega
 have hxl':((x:Int)<(f.length:Int)):=by omega
 have hyl':((y:Int)<(f.length:Int)):=by omega
 have hSx:=gK sv (λ_=>0#64) k hxl 0#64;have hSy:=gK sv (λ_=>0#64) k hyl 0#64;have hBx:=gK fv (λ_=>false) k hxl false;have hBy:=gK fv (λ_=>false) k hyl false;have hSl:=cn f.length sv (λ_=>0#64) k;have hBl:=cn f.length fv (λ_=>false) k;have hSs:=cp f.length sv (λ_=>0#64) k;have hBs:=cp f.length fv (λ_=>false) k;have hSk:sv k=0#64->fZ f.length sv (λ_=>0#64) k=fZ f.length sv (λ_=>0#64) (k+1):=λh=>rn h;have hBk:fv k=false->fZ f.length fv (λ_=>false) k=fZ f.length fv (λ_=>false) (k+1):=λh=>rn h;generalize fZ f.length sv (λ_=>0#64) k=S at hSx hSy hSl hSs hSk ⊢;generalize fZ f.length fv (λ_=>false) k=B at hBx hBy hBl hBs hBk ⊢;simp only [Int.toNat_natCast] at hcall hno hux hox hoy;have gSx:=vI S (show x<S.length by omega);have gSy:=vI S (show y<S.length by omega);have gBx:=Yk B (show x<B.length by omega);have gBy:=Yk B (show y<B.length by omega)
 have hop:1<=op/\op<=21:=by have h2:=(wI.1 hnd).1;simp only at h2;refine Decidable.byContradiction λhh=>?_;rw [kY (by omega)] at h2;cases h2
 have hxu:(xV op).1.x=true->S.getD x 0#64=sv x:=λh=>by rw [hSx,if_pos (by have:=hox h; omega)]
 have hyu:(xV op).1.y=true->S.getD y 0#64=sv y:=λh=>by rw [hSy,if_pos (by have:=hoy h; omega)]
 have hfx:4<=op->B.getD x false=fv x:=λh=>by
  have hu:(xV op).1.x=true:=by rw [hux,decide_eq_true h,decide_eq_true hop.2]; rfl
  rw [hBx,if_pos (by have:=hox hu; omega)]
 have hby:Vi op=true->(xV op).1.y=true:=λh=>by
  unfold Vi at h;simp only [Bool.or_eq_true,ε,decide_eq_true_eq] at h;have:op=5\/op=6\/op=7\/op=8\/op=13:=by omega
  rcases this with rfl | rfl | rfl | rfl | rfl <;> rfl
 have hfy:Vi op=true->B.getD y false=fv y:=λh=>by rw [hBy,if_pos (by have:=hoy (hby h); omega)]
 have hc':=λh=>hcall h (S.getD x 0#64) (S.getD y 0#64) hxu hyu;clear hcall hxu hyu hSx hSy hBx hBy;generalize S.getD x 0#64=sx at gSx hc';generalize S.getD y 0#64=sy at gSy hc';generalize B.getD x false=bx at gBx hfx;generalize B.getD y false=by' at gBy hfy
 have hwu:IntKind.i64.wrap ((k:Int)+ 1)= ((k+1:Nat):Int):=wrap_i64 (by omega);have gSk:=vI S (show k<S.length by omega);have gBk:=Yk B (show k<B.length by omega);by_cases h4:4<=op
 case neg=>
  have h5:¬ (5:Int)<=op:=by omega
  have h13:(op==13)= false:=by rw [beq_eq_false_iff_ne]; omega
  have hb:Vi op=false:=by unfold Vi; rw [decide_eq_false h5,decide_eq_false (show ¬ op=13 by omega)]; rfl
  simp only [simprocAttr,-ZA,↓zU,↓zD,zV,zT,zW,hd,hwu,xE,hg,xI,sY,hSl,hBl,hxl',hyl',gSx,gSy,gBx,gBy,gSk,gBk,oz,h4,h5,h13]
  (repeat refine sd ?_)
  refine .go (xY.yO (hc' (by rw [if_neg h4,hb]; rfl)) (by simp [D.xU,D.xL])) ?_;simp only [simprocAttr,-ZA,↓zU,↓zD,zV,zT,zW,hd,hwu,xE,hg,xI,sY,hSl,hBl,hxl',hyl',gSx,gSy,gBx,gBy,gSk,gBk,oz,h4,h5,h13,mQ,uh,hSs,hBs]
  (repeat refine sd ?_)
  refine⟨k+1,by omega,?_,by omega⟩
  (refine xN.ren [] [2,1,0] (by simp) (by simp) (by decide) ?_; simp only [yT,zQ,simprocAttr,-ZA,exists_eq_left',ne_eq,zR,yU,uF])
 have hfx:=hfx h4;subst hfx;rw [if_pos h4] at hc' hno
 cases hb:Vi op with
 | false=>
  rw [hb,if_neg (by decide),ν] at hc' hno
  have h13:(op==13)= false:=by rw [beq_eq_false_iff_ne]; rintro rfl; cases hb
  have h58:¬ (5<=op/\op<=8):=by rintro ⟨z1,z2⟩; unfold Vi at hb; rw [decide_eq_true z1,decide_eq_true z2] at hb; cases hb
  by_cases h5:5<=op
  ·have h8:¬ op<=8:=by omega
   cases hf:fv x with
   | true=>
    simp only [simprocAttr,-ZA,↓zU,↓zD,zV,zT,zW,hd,hwu,xE,hg,xI,sY,hSl,hBl,hxl',hyl',gSx,gSy,gBx,gBy,gSk,gBk,oz,h4,h5,h8,h13,hf]
    (repeat refine sd ?_)
    refine .go (cr (hc' hf)) ?_;simp only [simprocAttr,-ZA,↓zU,↓zD,zV,zT,zW,hd,hwu,xE,hg,xI,sY,hSl,hBl,hxl',hyl',gSx,gSy,gBx,gBy,gSk,gBk,oz,h4,h5,h8,h13,hf,mQ,uh,hSs,hBs]
    (repeat refine sd ?_)
    refine⟨k+1,by omega,?_,by omega⟩
    (refine xN.ren [] [2,1,0] (by simp) (by simp) (by decide) ?_; simp only [yT,zQ,simprocAttr,-ZA,exists_eq_left',ne_eq,zR,yU,uF])
   | false=>
    simp only [simprocAttr,-ZA,↓zU,↓zD,zV,zT,zW,hd,hwu,xE,hg,xI,sY,hSl,hBl,hxl',hyl',gSx,gSy,gBx,gBy,gSk,gBk,oz,h4,h5,h8,h13,hf]
    (repeat refine sd ?_)
    obtain⟨q1,q2⟩:=hno hf;rw [hSk q1,hBk q2];refine⟨k+1,by omega,?_,by omega⟩
    (refine xN.ren [] [2,1,0] (by simp) (by simp) (by decide) ?_; simp only [yT,zQ,simprocAttr,-ZA,exists_eq_left',ne_eq,zR,yU,uF])
  ·cases hf:fv x with
   | true=>
    simp only [simprocAttr,-ZA,↓zU,↓zD,zV,zT,zW,hd,hwu,xE,hg,xI,sY,hSl,hBl,hxl',hyl',gSx,gSy,gBx,gBy,gSk,gBk,oz,h4,h5,h13,hf]
    (repeat refine sd ?_)
    refine .go (cr (hc' hf)) ?_;simp only [simprocAttr,-ZA,↓zU,↓zD,zV,zT,zW,hd,hwu,xE,hg,xI,sY,hSl,hBl,hxl',hyl',gSx,gSy,gBx,gBy,gSk,gBk,oz,h4,h5,h13,hf,mQ,uh,hSs,hBs]
    (repeat refine sd ?_)
    refine⟨k+1,by omega,?_,by omega⟩
    (refine xN.ren [] [2,1,0] (by simp) (by simp) (by decide) ?_; simp only [yT,zQ,simprocAttr,-ZA,exists_eq_left',ne_eq,zR,yU,uF])
   | false=>
    simp only [simprocAttr,-ZA,↓zU,↓zD,zV,zT,zW,hd,hwu,xE,hg,xI,sY,hSl,hBl,hxl',hyl',gSx,gSy,gBx,gBy,gSk,gBk,oz,h4,h5,h13,hf]
    (repeat refine sd ?_)
    obtain⟨q1,q2⟩:=hno hf;rw [hSk q1,hBk q2];refine⟨k+1,by omega,?_,by omega⟩
    (refine xN.ren [] [2,1,0] (by simp) (by simp) (by decide) ?_; simp only [yT,zQ,simprocAttr,-ZA,exists_eq_left',ne_eq,zR,yU,uF])
 | true=>
  have hfy:=hfy hb;subst hfy;rw [hb,if_pos rfl] at hc' hno
  by_cases h13:op=13
  ·subst h13
   cases hf:fv x with
   | false=>
    simp only [simprocAttr,-ZA,↓zU,↓zD,zV,zT,zW,hd,hwu,xE,hg,xI,sY,hSl,hBl,hxl',hyl',gSx,gSy,gBx,gBy,gSk,gBk,oz,hf]
    (repeat refine sd ?_)
    obtain⟨q1,q2⟩:=hno (by rw [hf]; rfl);rw [hSk q1,hBk q2];refine⟨k+1,by omega,?_,by omega⟩
    (refine xN.ren [] [2,1,0] (by simp) (by simp) (by decide) ?_; simp only [yT,zQ,simprocAttr,-ZA,exists_eq_left',ne_eq,zR,yU,uF])
   | true=>
    cases hf2:fv y with
    | true=>
     simp only [simprocAttr,-ZA,↓zU,↓zD,zV,zT,zW,hd,hwu,xE,hg,xI,sY,hSl,hBl,hxl',hyl',gSx,gSy,gBx,gBy,gSk,gBk,oz,hf,hf2]
     (repeat refine sd ?_)
     refine .go (xY.yO (hc' (by rw [hf,hf2]; rfl)) (by simp [D.xU,D.xL])) ?_;simp only [simprocAttr,-ZA,↓zU,↓zD,zV,zT,zW,hd,hwu,xE,hg,xI,sY,hSl,hBl,hxl',hyl',gSx,gSy,gBx,gBy,gSk,gBk,oz,hf,hf2,mQ,uh,hSs,hBs]
     (repeat refine sd ?_)
     refine⟨k+1,by omega,?_,by omega⟩
     (refine xN.ren [] [2,1,0] (by simp) (by simp) (by decide) ?_; simp only [yT,zQ,simprocAttr,-ZA,exists_eq_left',ne_eq,zR,yU,uF])
    | false=>
     simp only [simprocAttr,-ZA,↓zU,↓zD,zV,zT,zW,hd,hwu,xE,hg,xI,sY,hSl,hBl,hxl',hyl',gSx,gSy,gBx,gBy,gSk,gBk,oz,hf,hf2]
     (repeat refine sd ?_)
     obtain⟨q1,q2⟩:=hno (by rw [hf,hf2]; rfl);rw [hSk q1,hBk q2];refine⟨k+1,by omega,?_,by omega⟩
     (refine xN.ren [] [2,1,0] (by simp) (by simp) (by decide) ?_; simp only [yT,zQ,simprocAttr,-ZA,exists_eq_left',ne_eq,zR,yU,uF])
  ·have h58:5<=op/\op<=8:=by unfold Vi at hb; rw [decide_eq_false h13,η,ε] at hb; exact⟨of_decide_eq_true hb.1,of_decide_eq_true hb.2⟩
   have h5:=h58.1;have h8:=h58.2
   cases hf:fv x with
   | false=>
    simp only [simprocAttr,-ZA,↓zU,↓zD,zV,zT,zW,hd,hwu,xE,hg,xI,sY,hSl,hBl,hxl',hyl',gSx,gSy,gBx,gBy,gSk,gBk,oz,h4,h5,h8,hf]
    (repeat refine sd ?_)
    obtain⟨q1,q2⟩:=hno (by rw [hf]; rfl);rw [hSk q1,hBk q2];refine⟨k+1,by omega,?_,by omega⟩
    (refine xN.ren [] [2,1,0] (by simp) (by simp) (by decide) ?_; simp only [yT,zQ,simprocAttr,-ZA,exists_eq_left',ne_eq,zR,yU,uF])
   | true=>
    cases hf2:fv y with
    | true=>
     simp only [simprocAttr,-ZA,↓zU,↓zD,zV,zT,zW,hd,hwu,xE,hg,xI,sY,hSl,hBl,hxl',hyl',gSx,gSy,gBx,gBy,gSk,gBk,oz,h4,h5,h8,hf,hf2]
     (repeat refine sd ?_)
     refine .go (xY.yO (hc' (by rw [hf,hf2]; rfl)) (by simp [D.xU,D.xL])) ?_;simp only [simprocAttr,-ZA,↓zU,↓zD,zV,zT,zW,hd,hwu,xE,hg,xI,sY,hSl,hBl,hxl',hyl',gSx,gSy,gBx,gBy,gSk,gBk,oz,h4,h5,h8,hf,hf2,mQ,uh,hSs,hBs]
     (repeat refine sd ?_)
     refine⟨k+1,by omega,?_,by omega⟩
     (refine xN.ren [] [2,1,0] (by simp) (by simp) (by decide) ?_; simp only [yT,zQ,simprocAttr,-ZA,exists_eq_left',ne_eq,zR,yU,uF])
    | false=>
     simp only [simprocAttr,-ZA,↓zU,↓zD,zV,zT,zW,hd,hwu,xE,hg,xI,sY,hSl,hBl,hxl',hyl',gSx,gSy,gBx,gBy,gSk,gBk,oz,h4,h5,h8,hf,hf2]
     (repeat refine sd ?_)
     obtain⟨q1,q2⟩:=hno (by rw [hf,hf2]; rfl);rw [hSk q1,hBk q2];refine⟨k+1,by omega,?_,by omega⟩
     (refine xN.ren [] [2,1,0] (by simp) (by simp) (by decide) ?_; simp only [yT,zQ,simprocAttr,-ZA,exists_eq_left',ne_eq,zR,yU,uF])
open Rs Fm Ru Te
theorem Z3 {m:qF} {W:Nat} (ok:lE m W) {f:List Nd} (hc:yN f=0) (hfr:(pJ .andNot .i64 (zC f:Int) 15 != 0)= false) (hft:sU f m.R.length m.V.length=true):zX prog 176 [m.d,.sl 6 (ndR f)] (.int .i64 0):=by
 have h1:=iR ok;have h2:=nJ f;have h3:=zo f;have h4:=YY f m.R.length m.V.length;rw [hc] at h2;rw [hft] at h4;unfold qF.d at h1 ⊢;refine xY.xP mixed func176 Lc (by simp) λhf=>?_;simp only [simprocAttr,-ZA,↓zU,↓zD,zV,zT,zW]
 (repeat refine sd ?_)
 refine .go (cr h1) ?_;simp only [simprocAttr,-ZA,↓zU,↓zD,zV,zT,zW];refine .go (cr h2) ?_;simp only [simprocAttr,-ZA,↓zU,↓zD,zV,zT,zW];refine .go (cr h3) ?_;simp only [simprocAttr,-ZA,↓zU,↓zD,zV,zT,zW,hfr,zJ,xI]
 (repeat refine sd ?_)
 refine .go (cr h4) ?_;simp only [simprocAttr,-ZA,↓zU,↓zD,zV,zT,zW];exact .dv
namespace Te
def tC (A F:Nat):Tr->Bool
 | .nil=>true
 | .nd op i e g x y=>qV A F ⟨op,i,e,g,0,0⟩&& (tC A F x&&tC A F y)
def iu (rs:List xG) (A F T:Nat) (t:Tr):BitVec 64:=if tC A F t=true then pB T (rs.length*T) (evT rs A T t) else 0#64
def Ni (rs:List xG) (A F T:Nat) (t:Tr):Tab:=if tC A F t=true then evT rs A T t else λ_=>false
theorem Um (rs:List xG) (A F T:Nat) (hW:rs.length*T<=64) (t:Tr):iu rs A F T t=pB T (rs.length*T) (Ni rs A F T t):=by
 unfold iu Ni
 split
 ·rfl
 ·refine iZ λi _=>?_;rw [yS hW,μ,Ag]
theorem zh {A F:Nat} {op i e g:Int} (h:qV A F ⟨op,i,e,g,0,0⟩= true):1<=op/\op<=13:=by
 unfold qV at h;simp only at h
 refine⟨Decidable.byContradiction λhh=>?_,Decidable.byContradiction λhh=>?_⟩
 ·rw [if_pos (by omega)] at h; cases h
 ·rw [if_neg (by omega),if_neg (by omega),if_neg (by omega),if_neg (by omega),if_neg (by omega)] at h; cases h
theorem bd {op:Int} (h1:1<=op) (h2:op<=13):(xV op).1.y=Vi op/\(xV op).1.x=decide (4<=op):=by
 have:op=1\/op=2\/op=3\/op=4\/op=5\/op=6\/op=7\/op=8\/op=9\/op=10\/op=11\/op=12\/op=13:=by omega
 rcases this with rfl | rfl | rfl | rfl | rfl | rfl | rfl | rfl | rfl | rfl | rfl | rfl | rfl <;> exact⟨rfl,rfl⟩
end Te
theorem vr {rs:List xG} {A F T:Nat} (ok:OkR rs A F T) (hW:rs.length*T<=64) {f:List Nd} (hc:yN f=0) (hfr:(pJ .andNot .i64 (zC f:Int) 15 != 0)= false) (hft:sU f A F=true) :
  zX prog 54 [(pA rs (ptl rs T) A F).d,.sl 6 (ndR f)] (.tup [.int .u64 (ui (iu rs A F T (oW f))),.int .i64 0]):=by
 have hl:(ptl rs T).length=rs.length*T:=vR T _;have h1:1<=rs.length*T:=Ap ok.hR.1 ok.hT.1;have hm:=yf (F:=F) ok (l:=ptl rs T) (by omega) (by omega);rw [hl] at hm;have hRl:(pA rs (ptl rs T) A F).R.length=A:=by show (qH rs (ptl rs T) A).length=A; simp [qH]
 have hVl:(pA rs (ptl rs T) A F).V.length=F:=by show (lI rs (ptl rs T) F).length=F; simp [lI]
 obtain⟨c1,c2,c3⟩:=vX hc;have hn:0<f.length:=Ac.2 c1;have hreq:=Z3 hm hc hfr (by rw [hRl,hVl]; exact hft);have hS:=Np (sv:=λk=>iu rs A F T (tree f k)) (fv:=λk=>tC A F (tree f k)) hc hreq (λk hk hok x y hx hy=>?_) λk hk hno=>?_
 rotate_left
 ·have hnd:=c3 k hk;have ht:=tV c3 hk;unfold okF at hok;dsimp only at hok;generalize f.getD k nd0=n at hnd ht hok hx hy ⊢;rw [Um rs A F T hW] at hx hy
  have hcom:n.op=13->n.g<(2 ^ (pA rs (ptl rs T) A F).R.length:Nat)->lF (wO (pA rs (ptl rs T) A F) n.g.toNat false) (oZ (rs.length*T)) x y (rs.length*T+1)= lF (wO (pA rs (ptl rs T) A F) n.g.toNat false) (oZ (rs.length*T)) x y (rs.length*T):=λh13 hg=>by
   have hu:(xV n.op).1.x=true/\(xV n.op).1.y=true/\(xV n.op).1.gr=true:=by rw [h13]; exact⟨rfl,rfl,rfl⟩
   have h1:=(wI.1 hnd).2.2.2.2;simp only [θ,hu.2.2,yX,γ,decide_eq_false_iff_not] at h1;rw [hRl] at hg;rw [hx hu.1,hy hu.2.1];exact QF ok hW (by omega) _ _
  have hv:=Rg hm hnd (x:=x) (y:=y) hcom;have hs:=VC ok hW (F:=F) hnd hx hy
  have key:(pG (pA rs (ptl rs T) A F) (rs.length*T) n x y)= (iu rs A F T (tree f k),tC A F (tree f k)):=by
   rw [hs,ht];unfold iu;show _=(if (qV A F ⟨n.op,n.i,n.e,n.g,0,0⟩&& (tC A F (if (xV n.op).1.x=true then tree f n.x.toNat else .nil)&& tC A F (if (xV n.op).1.y=true then tree f n.y.toNat else .nil)))= true then _ else _,qV A F ⟨n.op,n.i,n.e,n.g,0,0⟩&& (tC A F (if (xV n.op).1.x=true then tree f n.x.toNat else .nil)&& tC A F (if (xV n.op).1.y=true then tree f n.y.toNat else .nil)));have hst:qV A F ⟨n.op,n.i,n.e,n.g,0,0⟩= qV A F n:=rfl;rw [hst]
   cases hst2:qV A F n with
   | false=>rfl
   | true=>
    obtain⟨o1,o2⟩:=zh (hst.trans hst2);obtain⟨uy,ux⟩:=bd o1 o2;rw [<- uy] at hok
    have fx:(xV n.op).1.x=true->tC A F (tree f n.x.toNat)= true:=λh=>by rw [ux,decide_eq_true_iff] at h;rw [if_pos h,ε] at hok;exact hok.1
    have fy:(xV n.op).1.y=true->tC A F (tree f n.y.toNat)= true:=λh=>by rw [if_pos h,ε] at hok;exact hok.2
    have fx':tC A F (if (xV n.op).1.x=true then tree f n.x.toNat else .nil)= true:=by
     split
     ·rename_i h; exact fx h
     ·rfl
    have fy':tC A F (if (xV n.op).1.y=true then tree f n.y.toNat else .nil)= true:=by
     split
     ·rename_i h; exact fy h
     ·rfl
    rw [fx',fy',if_pos rfl,if_pos (show (true&&(true&&true))= true from rfl)];refine Prod.ext ?_ rfl;refine congrArg (pB T (rs.length*T)) ?_;show _=zH rs A T ⟨n.op,n.i,n.e,n.g,0,0⟩ _ _
    refine rv rfl rfl rfl (λh=>?_) λh=>?_
    ·rw [if_pos h,Ni,if_pos (fx h)]
    ·rw [if_pos h,Ni,if_pos (fy h)]
  rw [key] at hv;exact hv
 ·have ht:=tV c3 hk;unfold okF at hno;dsimp only at hno;generalize f.getD k nd0=n at ht hno
  have hf:tC A F (tree f k)= false:=by
   rw [ht];show (qV A F ⟨n.op,n.i,n.e,n.g,0,0⟩&& (tC A F (if (xV n.op).1.x=true then tree f n.x.toNat else .nil)&& tC A F (if (xV n.op).1.y=true then tree f n.y.toNat else .nil)))= false
   cases hst:qV A F ⟨n.op,n.i,n.e,n.g,0,0⟩ with
   | false=>rfl
   | true=>
    obtain⟨o1,o2⟩:=zh hst;obtain⟨uy,ux⟩:=bd o1 o2;rw [<- uy] at hno;rw [γ]
    by_cases h4:4<=n.op
    ·rw [if_pos h4] at hno;rw [if_pos (by rw [ux,decide_eq_true h4])]
     cases hy:(xV n.op).1.y with
     | true=>rw [hy,if_pos rfl] at hno; rw [if_pos rfl]; exact hno
     | false=>rw [hy,if_neg (by decide),ν] at hno; rw [hno]; rfl
    ·rw [if_neg h4] at hno
     cases hy:(xV n.op).1.y with
     | true=>rw [hy,if_pos rfl,γ] at hno; rw [if_pos rfl,hno,μ]
     | false=>rw [hy] at hno; cases hno
  exact⟨by unfold iu; rw [hf,if_neg (by decide)],hf⟩
 have hlast:((List.range f.length).map λk=>iu rs A F T (tree f k)).getD (f.length-1) 0=iu rs A F T (oW f):=by
  have:f.length-1<f.length:=by omega
  simp [List.getD,this,oW]
 have hlen:((List.range f.length).map λk=>iu rs A F T (tree f k)).length=f.length:=by simp
 generalize ((List.range f.length).map λk=>iu rs A F T (tree f k))= l at hS hlast hlen;have hg:=vI l (show f.length-1<l.length by omega);rw [hlast] at hg;have hw:IntKind.i64.wrap ((l.length:Int)-1)= ((f.length-1:Nat):Int):=by rw [hlen,wrap_i64 (by omega)]; omega
 have hlt:((f.length-1:Nat):Int)<(l.length:Int):=by omega
 unfold qF.d at hS ⊢;refine xY.xP mixed func54 k54 (by simp) λhf=>?_;simp only [simprocAttr,-ZA,↓zU,↓zD,zV,zT,zW]
 (repeat refine sd ?_)
 refine .go (cr hS) ?_;simp only [simprocAttr,-ZA,↓zU,↓zD,zV,zT,zW,xI,hw,hg,hlt]
 (repeat refine sd ?_)
 exact .drop (by simp) (by simp [vw,vwL])
open Rs Fm Ru Te
namespace Te
def pD (rs:List xG) (t:Nat):List xG:=rs.map λr=>⟨[r.loc.getD t []],[r.fac.getD t 0]⟩
section
variable {rs : List xG} {A F T t : Nat}
theorem tB : (pD rs t).length=rs.length:=by simp [pD]
theorem Y6 {i:Nat} (hi:i<rs.length):(pD rs t).getD i tX=⟨[(rs.getD i tX).loc.getD t []],[(rs.getD i tX).fac.getD t 0]⟩:=by simp [pD,List.getD,hi]
theorem oM {a i:Nat} (hi:i<rs.length):yJ (pD rs t) a (i,0)= yJ rs a (i,t):=by unfold yJ;simp only [Y6 hi];rfl
theorem Y5 {i:Nat} (hi:i<rs.length):xe (pD rs t) (i,0)= xe rs (i,t):=by unfold xe;simp only [Y6 hi];rfl
theorem R6 : ptl (pD rs t) 1=yA rs.length 0:=by unfold ptl ptN yA;rw [tB,Ao];refine π λi _=>?_;rw [Nat.div_one,Nat.mod_one]
theorem rX {R i:Nat} (hi:i<R):(yA R t).getD i (0,0)= (i,t):=by simp [yA,List.getD,hi]
theorem Y7 (f:Nat):∀ k,k<=rs.length->qW (pD rs t) (yA rs.length 0) f k=qW rs (yA rs.length t) f k
 | 0,_=>rfl
 | k+1,h=>by unfold qW;rw [Y7 f k (by omega),rX (by omega),rX (by omega),Y5 (by omega)]
theorem pZ (a:Nat) (x:Int):∀ k,k<=rs.length->Ru.fY (pD rs t) (yA rs.length 0) a x k=Ru.fY rs (yA rs.length t) a x k
 | 0,_=>rfl
 | k+1,h=>by unfold Ru.fY;rw [pZ a x k (by omega),rX (by omega),rX (by omega),oM (by omega)]
theorem Wp : pA (pD rs t) (ptl (pD rs t) 1) A F=pA rs (yA rs.length t) A F:=by
 rw [R6]
 have h1:lI (pD rs t) (yA rs.length 0) F=lI rs (yA rs.length t) F:=by unfold lI;refine π λf _=>?_;rw [vU,vU,Y7 f _ (Al _)]
 have h2:qH (pD rs t) (yA rs.length 0) A=qH rs (yA rs.length t) A:=by unfold qH;refine π λa _=>?_;unfold rC;rw [vU,vU];unfold yA;rw [List.map_map,List.map_map];refine π λi hi=>?_;have:=ξ.1 hi;show Ru.fY (pD rs t) (yA rs.length 0) a (yJ (pD rs t) a (i,0)) rs.length=Ru.fY rs (yA rs.length t) a (yJ rs a (i,t)) rs.length;rw [oM this,pZ a _ _ (Al _)]
 unfold pA;rw [h1,h2,vU,vU]
theorem OL (ok:OkR rs A F T) (ht:t<T):OkR (pD rs t) A F 1:=by
 have hm:∀ r ∈ pD rs t,∃ q ∈ rs,r=⟨[q.loc.getD t []],[q.fac.getD t 0]⟩:=λr hr=>by obtain⟨q,hq,e⟩:=ο.1 hr;exact⟨q,hq,e.symm⟩
 have hR:=ok.hR
 refine⟨ok.hA,ok.hF,⟨Al _,by decide⟩,by rw [tB]; exact hR,by rw [tB]; omega,?_,?_,?_,?_⟩
 ·intro r hr;obtain⟨q,hq,rfl⟩:=hm r hr;rfl
 ·intro r hr;obtain⟨q,hq,rfl⟩:=hm r hr;rfl
 ·intro r hr l hl;obtain⟨q,hq,rfl⟩:=hm r hr;have:l=q.loc.getD t []:=by simpa using hl
  subst this;have hlen:=ok.loc q hq;exact ok.row q hq _ (by rw [List.getD,υ (by omega)]; exact Ae _)
 ·intro r hr l hl;obtain⟨q,hq,rfl⟩:=hm r hr;have:l=q.fac.getD t 0:=by simpa using hl
  subst this;have hlen:=ok.fac q hq;exact ok.val q hq _ (by rw [List.getD,υ (by omega)]; exact Ae _)
def PB (rs:List xG) (A T:Nat):Prop:=∀ a,a<A->∀ p q:Nat × Nat,p.1<rs.length/\p.2<T->q.1<rs.length/\q.2<T->yJ rs a p=yJ rs a q->p.2=q.2
section
variable (hs : PB rs A T) (hT : 1 <= T) (ht : t < T)
include hs hT ht
theorem wh {a:Nat} (ha:a<A) {x y:Tab} (h:∀ j,j<rs.length->x (j,0)= y (j,t)) {i:Nat} (hi:i<rs.length):vS (pD rs t) 1 a x (i,0)= vS rs T a y (i,t):=by
 have hin:∀ {q},q ∈ ptl (pD rs t) 1->q.1<rs.length/\q.2<1:=λhq=>by have:=ug (Al 1) hq; rwa [tB] at this
 unfold vS;rw [ζ,τ,τ]
 constructor
 ·intro h1 q hq;obtain⟨j,u⟩:=q;obtain⟨hj,hu⟩:=ug hT hq;simp only at hj hu
  by_cases e:yJ rs a (j,u)= yJ rs a (i,t)
  ·have e2:=hs a ha (j,u) (i,t) ⟨hj,hu⟩ ⟨hi,ht⟩ e;simp only at e2;subst e2;have:=h1 (j,0) (lZ (Al 1) (by rw [tB]; exact hj) (by omega));rw [oM hj,oM hi,h j hj] at this;exact this
  ·rw [decide_eq_false e]; rfl
 ·intro h1 q hq;obtain⟨j,u⟩:=q;obtain⟨hj,hu⟩:=hin hq;simp only at hj hu;have:u=0:=by omega
  subst this;rw [oM hj,oM hi,h j hj];exact h1 (j,t) (lZ hT hj ht)
theorem qn {g:Nat} {x y:Tab} (h:∀ j,j<rs.length->x (j,0)= y (j,t)) {i:Nat} (hi:i<rs.length):uS (pD rs t) A 1 g x (i,0)= uS rs A T g y (i,t):=by unfold uS;refine eZ λa ha=>?_;rw [wh hs hT ht (ξ.1 ha) h hi]
theorem Zq {g:Nat} {x y x' y':Tab} (h:∀ j,j<rs.length->x (j,0)= x' (j,t)) (h':∀ j,j<rs.length->y (j,0)= y' (j,t)):∀ (n:Nat) {i:Nat},i<rs.length->tY (pD rs t) A 1 g x y n (i,0)= tY rs A T g x' y' n (i,t)
 | 0,_,_=>rfl
 | n+1,i,hi=>by show uS (pD rs t) A 1 g _ (i,0)= uS rs A T g _ (i,t);refine qn hs hT ht (λj hj=>?_) hi;show (!x (j,0) || (y (j,0)&& tY (pD rs t) A 1 g x y n (j,0)))= (!x' (j,t) || (y' (j,t)&& tY rs A T g x' y' n (j,t)));rw [h j hj,h' j hj,Zq h h' n hj]
theorem Xk {g:Nat} {x y x' y':Tab} (h:∀ j,j<rs.length->x (j,0)= x' (j,t)) (h':∀ j,j<rs.length->y (j,0)= y' (j,t)) {i:Nat} (hi:i<rs.length):sC (pD rs t) A 1 g x y (i,0)= sC rs A T g x' y' (i,t):=by unfold sC;obtain⟨n,h1,h2⟩:=bh (rs:=pD rs t) (A:=A) (T:=1) g x y;rw [tB,Ao] at h1;have hm:rs.length<=rs.length*T:=Nat.le_mul_of_pos_right _ hT;obtain⟨m,e1⟩:=Ak h1;obtain⟨k,e2⟩:=Ak (Nat.le_trans h1 hm);have hp:(i,0)∈ ptl (pD rs t) 1:=lZ (Al 1) (by rw [tB]; exact hi) (by omega);rw [tB,Ao,<- Zq hs hT ht h h' _ hi,e2,qM h2 k _ hp];rw [e1,qM h2 m _ hp]
theorem TQ {g:Nat} (hg:1<=g/\g<2 ^ A) {x y:Tab} (h:∀ j,j<rs.length->x (j,0)= y (j,t)) {i:Nat} (hi:i<rs.length):bP (pD rs t) A 1 g x (i,0)= bP rs A T g y (i,t):=by
 have hin:∀ {q},q ∈ ptl (pD rs t) 1->q.1<rs.length/\q.2<1:=λhq=>by have:=ug (Al 1) hq; rwa [tB] at this
 have htog:∀ j,j<rs.length->XK (pD rs t) A g (i,0) (j,0)= XK rs A g (i,t) (j,t):=λj hj=>by unfold XK;refine eZ λa _=>?_;rw [oM hi,oM hj]
 have hbit:∃ a,a<A/\g.testBit a=true:=by
  refine Decidable.byContradiction λhn=>?_
  have:g=0:=by
   refine Nat.eq_of_testBit_eq λa=>?_;rw [Nat.zero_testBit]
   by_cases ha:a<A
   ·exact κ.2 λe=>hn ⟨a,ha,e⟩
   ·exact Nat.testBit_lt_two_pow (Nat.lt_of_lt_of_le hg.2 (Nat.pow_le_pow_right (by decide) (by omega)))
  omega
 unfold bP;rw [ζ,τ,τ]
 constructor
 ·intro h1 q hq;obtain⟨j,u⟩:=q;obtain⟨hj,hu⟩:=ug hT hq;simp only at hj hu
  cases e:XK rs A g (i,t) (j,u) with
  | false=>rfl
  | true=> obtain⟨a,ha,hb⟩:=hbit;have e1:=(τ.1 e) a (ξ.2 ha);rw [hb] at e1;have e2:t=u:=hs a ha (i,t) (j,u) ⟨hi,ht⟩ ⟨hj,hu⟩ (by simpa using e1);subst e2;have:=h1 (j,0) (lZ (Al 1) (by rw [tB]; exact hj) (by omega));rw [htog j hj,e,h j hj] at this;exact this
 ·intro h1 q hq;obtain⟨j,u⟩:=q;obtain⟨hj,hu⟩:=hin hq;simp only at hj hu;have:u=0:=by omega
  subst this;rw [htog j hj,h j hj];exact h1 (j,t) (lZ hT hj ht)
theorem UB {n:Nd} {k:Int} (hn:zG n k=0) (hst:qV A F n=true) {x y x' y':Tab} (hx:∀ j,j<rs.length->x (j,0)= x' (j,t)) (hy:∀ j,j<rs.length->y (j,0)= y' (j,t)) {i:Nat} (hi:i<rs.length) :
  zH (pD rs t) A 1 n x y (i,0)= zH rs A T n x' y' (i,t):=by
 have hi0:n.op=9\/n.op=10->0<=n.i:=λh=>by
  rcases h with h | h
  ·exact(uE hn (by rw [h]; rfl)).1
  ·exact(uE hn (by rw [h]; rfl)).1
 have hg0:n.op=11\/n.op=12\/n.op=13->1<=n.g/\n.g<=15:=λh=>by
  have hgr:(xV n.op).1.gr=true:=by rcases h with h | h | h <;> rw [h] <;> rfl
  have h1:=(wI.1 hn).2.2.2.2;simp only [θ,hgr,yX,γ,decide_eq_false_iff_not] at h1;omega
 obtain⟨op,a,e,g,p,q⟩:=n;have hop:=zh (A:=A) (F:=F) (op:=op) (i:=a) (e:=e) (g:=g) hst;have:op=1\/op=2\/op=3\/op=4\/op=5\/op=6\/op=7\/op=8\/op=9\/op=10\/op=11\/op=12\/op=13:=by omega
 rcases this with rfl | rfl | rfl | rfl | rfl | rfl | rfl | rfl | rfl | rfl | rfl | rfl | rfl
 ·rfl
 ·rfl
 ·show (xe (pD rs t) (i,0)).getLsbD a.toNat=(xe rs (i,t)).getLsbD a.toNat;rw [Y5 hi]
 ·show (!x (i,0))= !x' (i,t);rw [hx i hi]
 ·show (x (i,0)&& y (i,0))= (x' (i,t)&& y' (i,t));rw [hx i hi,hy i hi]
 ·show (x (i,0) || y (i,0))= (x' (i,t) || y' (i,t));rw [hx i hi,hy i hi]
 ·show (!x (i,0) || y (i,0))= (!x' (i,t) || y' (i,t));rw [hx i hi,hy i hi]
 ·show (x (i,0)== y (i,0))= (x' (i,t)== y' (i,t));rw [hx i hi,hy i hi]
 ·have h0:0<=a:=hi0 (.inl rfl);have h1:a<(A:Int):=of_decide_eq_true hst;exact wh hs hT ht (show a.toNat<A by omega) hx hi
 ·have h0:0<=a:=hi0 (.inr rfl);have h1:a<(A:Int):=of_decide_eq_true hst;show (!vS (pD rs t) 1 a.toNat (λq=>!x q) (i,0))= !vS rs T a.toNat (λq=>!x' q) (i,t);rw [wh hs hT ht (by omega) (x:=λq=>!x q) (y:=λq=>!x' q) (λj hj=>by rw [hx j hj]) hi]
 ·exact qn hs hT ht hx hi
 ·have h0:1<=g/\g<=15:=hg0 (.inr (.inl rfl));have h1:g<((2 ^ A:Nat):Int):=of_decide_eq_true hst;exact TQ hs hT ht (show 1<=g.toNat/\g.toNat<2 ^ A by omega) hx hi
 ·exact Xk hs hT ht hx hy hi
theorem Yd : ∀ (x:Tr),wfT x->tC A F x=true->∀ {i:Nat},i<rs.length->evT (pD rs t) A 1 x (i,0)= evT rs A T x (i,t)
 | .nil,_,_,_,_=>rfl
 | .nd op i e g x y,hw,hf,j,hj=>by
  obtain⟨hn,hwx,hwy⟩:=hw;have hf':(qV A F ⟨op,i,e,g,0,0⟩&& (tC A F x&&tC A F y))= true:=hf;simp only [ε] at hf';obtain⟨h1,h2,h3⟩:=hf';show zH (pD rs t) A 1 ⟨op,i,e,g,0,0⟩ (evT (pD rs t) A 1 x) (evT (pD rs t) A 1 y) (j,0)= zH rs A T ⟨op,i,e,g,0,0⟩ (evT rs A T x) (evT rs A T y) (j,t)
  refine UB hs hT ht hn h1 (λi hi=>?_) (λi hi=>?_) hj
  ·split at hwx
   ·exact Yd x hwx h2 hi
   ·rw [hwx]; rfl
  ·split at hwy
   ·exact Yd y hwy h3 hi
   ·rw [hwy]; rfl
end
end
end Te
open Rs Fm Ru Te Kb
namespace Kb
def stR (sts:List (List (BitVec 64))) (i:Nat):List (BitVec 64):=sts.getD i []
def xf (see:List (BitVec 64)) (sts:List (List (BitVec 64))) (t a w:Nat):Nat:=(List.range sts.length).findIdx λv=>decide (mR see (stR sts v) a t=mR see (stR sts w) a t)
def vK (see:List (BitVec 64)) (sts:List (List (BitVec 64))) (t:Nat):List xG:=(List.range sts.length).map λw=>⟨[(List.range see.length).map λa=>((xf see sts t a w:Nat):Int)],[(stR sts w).getD t 0]⟩
section
variable {see : List (BitVec 64)} {sts : List (List (BitVec 64))} {t : Nat}
theorem kD : (vK see sts t).length=sts.length:=by simp [vK]
theorem eU {i:Nat} (hi:i<sts.length):(vK see sts t).getD i tX=⟨[(List.range see.length).map λa=>((xf see sts t a i:Nat):Int)],[(stR sts i).getD t 0]⟩:=by simp [vK,List.getD,hi]
theorem vd {n:Nat} {q:Nat->Bool} (h:∃ i,i<n/\q i=true):(List.range n).findIdx q<n/\q ((List.range n).findIdx q)= true:=by obtain⟨i,hi,hq⟩:=h;have h1:(List.range n).findIdx q<(List.range n).length:=List.findIdx_lt_length.2 ⟨i,ξ.2 hi,hq⟩;refine⟨by simpa using h1,?_⟩;have:=List.findIdx_getElem (p:=q) (w:=h1);simpa using this
theorem rj {a w:Nat} (hw:w<sts.length):xf see sts t a w<sts.length/\mR see (stR sts (xf see sts t a w)) a t=mR see (stR sts w) a t:=by have:=vd (n:=sts.length) (q:=λv=>decide (mR see (stR sts v) a t=mR see (stR sts w) a t)) ⟨w,hw,by simp⟩;refine⟨this.1,?_⟩;have h2:=this.2;simp only [decide_eq_true_eq] at h2;exact h2
theorem Tk {a v w:Nat} (hv:v<sts.length) (hw:w<sts.length):xf see sts t a v=xf see sts t a w ↔ mR see (stR sts v) a t=mR see (stR sts w) a t:=by
 constructor
 ·intro h;rw [<- (rj (see:=see) (t:=t) (a:=a) hv).2,<- (rj (see:=see) (t:=t) (a:=a) hw).2,h]
 ·intro h;unfold xf;rw [h]
theorem zi {a v w:Nat} (ha:a<see.length) (hv:v<sts.length) (hw:w<sts.length):yJ (vK see sts t) a (v,0)= yJ (vK see sts t) a (w,0) ↔ mR see (stR sts v) a t=mR see (stR sts w) a t:=by unfold yJ;simp only [eU hv,eU hw];rw [<- Tk hv hw];simp [List.getD,ha];omega
theorem V3 {w:Nat} (hw:w<sts.length):xe (vK see sts t) (w,0)= (stR sts w).getD t 0:=by unfold xe;simp only [eU hw];rfl
theorem V4 : ptl (vK see sts t) 1=yA sts.length 0:=by unfold ptl ptN yA;rw [kD,Ao];refine π λi _=>?_;rw [Nat.div_one,Nat.mod_one]
theorem RZ {F:Nat} (hA:see.length<=4) (hF:F<=8) (hR:1<=sts.length/\sts.length<=64) (hv:∀ w,w<sts.length->(stR sts w).getD t 0 >>> F=0#64):OkR (vK see sts t) see.length F 1 where
 hA:=hA
 hF:=hF
 hT:=⟨by omega,by omega⟩
 hR:=by rw [kD]; exact hR
 hP:=by rw [kD]; omega
 loc:=λr hr=>by simp only [vK,ο] at hr;obtain⟨i,_,rfl⟩:=hr;rfl
 fac:=λr hr=>by simp only [vK,ο] at hr;obtain⟨i,_,rfl⟩:=hr;rfl
 row:=λr hr l hl=>by simp only [vK,ο] at hr;obtain⟨i,_,rfl⟩:=hr;simp only [Ad] at hl;subst hl;simp
 val:=λr hr x hx=>by simp only [vK,ο,ξ] at hr;obtain⟨i,hi,rfl⟩:=hr;simp only [Ad] at hx;subst hx;exact hv i hi
end
def Vb (see:List (BitVec 64)) (sts:List (List (BitVec 64))) (t F:Nat):D:=Vf (vK see sts t) (yA sts.length 0) see.length F
end Kb
theorem Qa {see:List (BitVec 64)} {sts:List (List (BitVec 64))} {t a v w:Nat} (ha:a<see.length) (hv:v<sts.length) (hw:w<sts.length) :
  decide ((mR see (stR sts w) a t).map ui=(mR see (stR sts v) a t).map ui)= decide (yJ (vK see sts t) a (v,0)= yJ (vK see sts t) a (w,0)):=by
 have h1:=zi (see:=see) (sts:=sts) (t:=t) ha hv hw
 have h2:(mR see (stR sts w) a t).map ui=(mR see (stR sts v) a t).map ui ↔ mR see (stR sts v) a t=mR see (stR sts w) a t:=⟨λh=>((List.map_inj_right λx y=>Sm.1).1 h).symm,λh=>by rw [h]⟩
 rw [ζ,decide_eq_true_eq,decide_eq_true_eq,h2,h1]
end Go.Pd
