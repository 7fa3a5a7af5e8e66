/- Part JB. -/
import Derived.Test.YtndfaefmmcoapaaGreatUbHA
set_option linter.unusedSectionVars false
set_option linter.unusedVariables false
set_option linter.unusedSimpArgs false
set_option linter.defProp false
set_option maxRecDepth 20000
set_option maxHeartbeats 1000000
open Go.Proofs.Tryz
open List renaming length_range->γ,length_map->δ,take_of_length_le->ε,all_append->ζ,all_cons->η,all_nil->θ,mem_range->κ,map_congr_left->μ,take_add_one->ν
open Bool renaming eq_iff_iff->ξ,false_or->ο,true_or->π,false_and->τ,true_and->υ,and_true->χ,false_eq_true->ω
open Nat renaming zero_le->Aa,lt_succ_self->Ab,le_succ->Ac,le_refl->Ad,mul_comm->Ae
namespace Go.Pd
open Go Go.Proofs
open BitVec renaming isValue -> ZA
section
open Rs Fm Ru Te
namespace Te
theorem Yf {g a:Nat} (hg:g<2 ^ 60) (ha:a<=60):pJ .and .i64 (Vg .i64 (g:Int) (a:Int)) 1=if g.testBit a then 1 else 0:=by
 have h2:g / 2 ^ a<=g:=Nat.div_le_self _ _;rw [Sk _ _ ha,Q5 (by omega),Nat.testBit_eq_decide_div_mod_eq];have:=Nat.mod_two_eq_zero_or_one (g / 2 ^ a)
 rcases this with h | h
 ·rw [h]; rfl
 ·rw [h]; rfl
theorem tj {C:Cx} {f:Fr} {s nx nx2 R T:Nat} {xZ objs2:List (Nat × Ob)} {kr:Nat->Nat} {v:Nat->Nat->Bool} {φ:Nat × Nat->Bool} (hu:iW ⟨nx,xZ⟩) (hn:C.n0=nx) (hT:TI R T nx R kr v nx2 xZ objs2)
  (hv:∀ i t,i<R->t<T->v i t=φ (i,t)) (hf:f.get s = .osl nx 1 R):xN C f ⟨nx2,objs2⟩ [(s,.osl nx 1 R)] ⟨nx2,(nx,⟨1,zI R T φ⟩) :: cln xZ⟩:=by
 have n1:=hT.n1
 refine xN.view (λk=>k) (by show C.n0<=nx2; omega) (λ_ _=>rfl) ?_ ?_ (λp _ q _ e=>e)
 ·simp only [vwF,hf,vw];exact⟨⟨by omega,trivial⟩,trivial⟩
 ·intro p hp
  rcases List.mem_cons.1 hp with rfl | hp
  ·refine⟨by show nx<nx2; omega,_,hT.lo,rfl,?_⟩;refine sG λi hi=>⟨by unfold XS; split <;> rfl,?_⟩;have hi':=κ.1 hi;obtain⟨b1,b2,b3⟩:=hT.lr i hi';unfold XS;rw [if_pos hi'];simp only [vwL,vw,and_true]
   refine⟨trivial,by decide,λq hq=>?_,_,b3,rfl,by simp [rbR],?_,?_⟩
   ·rcases List.mem_cons.1 hq with rfl | hq
    ·show nx≠kr i; omega
    ·have:=(hu q.1 q.2 (qX hq)).1;simp only at this;omega
   ·rw [ε (by simp [rbR])];congr 1;exact μ λt ht=>(hv i t hi' (κ.1 ht)).symm
   ·intro e he;simp only [rbR,List.mem_map] at he;obtain⟨b,_,rfl⟩:=he;rfl
  ·have hl:=qX hp;obtain⟨u1,u2⟩:=hu p.1 p.2 hl;simp only at u1 u2;refine⟨by show p.1<nx2; omega,p.2,?_,rfl,kX λe he=>uT (by show nx<=nx2; omega) (u2 e he)⟩;show St.look objs2 p.1=_;rw [hT.old p.1 u1]; exact hl
theorem YB {nx nx2 R T:Nat} {xZ:List (Nat × Ob)} {φ:Nat × Nat->Bool} (hu:iW ⟨nx,xZ⟩):jM nx ⟨nx2,(nx,⟨1,zI R T φ⟩) :: cln xZ⟩ (.osl nx 1 R) ⟨nx,cln xZ⟩ (.sl 1 (zI R T φ)):=by
 refine .gone hu (λk o hk=>?_) ?_
 ·have:=(hu k o hk).1;simp only at this;show St.look (_ :: _) k=_;rw [xX,if_neg (by omega),kM]; exact hk
 ·simp only [vw]
  refine⟨trivial,by decide,λq hq=>?_,_,by rw [Ye,xX,if_pos rfl],rfl,by simp [zI],(tO (show R=(zI R T φ).length by simp [zI])).symm,?_⟩
  ·have:=(hu q.1 q.2 (qX hq)).1;simp only at this;omega
  ·intro e he;simp only [zI,List.mem_map] at he;obtain⟨b,_,rfl⟩:=he;rfl
theorem TI.congr {R T nb r:Nat} {kr:Nat->Nat} {v v':Nat->Nat->Bool} {nx:Nat} {objs0 xZ:List (Nat × Ob)} (h:TI R T nb r kr v nx objs0 xZ) (hv:∀ i t,i<r->t<T->v i t=v' i t):TI R T nb r kr v' nx objs0 xZ:=
 ⟨h.n1,h.old,h.lo,λi hi=>by obtain⟨a,b,c⟩:=h.lr i hi;refine⟨a,b,?_⟩;rw [c];congr 3;exact μ λt ht=>hv i t hi (κ.1 ht),h.dr⟩
theorem YE {T w i t:Nat} {v v':Nat->Bool} {b:Bool} (ht:t<T) (h:∀ k,k<T->k≠t->v k=v' k) (hb:v' t=b) (_:i*T+t=w):(rbR ((List.range T).map v)).set t [D.bool b]=rbR ((List.range T).map v'):=by
 refine List.ext_getElem (by simp [rbR]) λk h1 h2=>?_;have hk:k<T:=by simpa [rbR] using h2
 rw [List.getElem_set]
 by_cases e:t=k
 ·subst e;rw [if_pos rfl];simp [rbR,hb]
 ·rw [if_neg e];simp only [rbR,List.getElem_map,List.getElem_range,h k hk λe2=>e e2.symm]
theorem N4 {T i t j u:Nat} (ht:t<T) (hu:u<T) (e:i*T+t=j*T+u):i=j/\t=u:=by
 have h1:(i*T+t)/ T=i:=by rw [Ae,Nat.mul_add_div (by omega),Nat.div_eq_of_lt ht]; rfl
 have h2:(j*T+u)/ T=j:=by rw [Ae,Nat.mul_add_div (by omega),Nat.div_eq_of_lt hu]; rfl
 rw [e] at h1;have:i=j:=h1.symm.trans h2;subst this;exact⟨rfl,by omega⟩
theorem YA {T t:Nat} {v:Nat->Bool} (h:t<T):(rbR ((List.range T).map v)).getD t [] = [.bool (v t)]:=by simp [rbR,List.getD,h]
def sH (rs:List xG) (T g:Nat) (x:Tab) (a:Nat) (p:Nat × Nat):Bool:=(List.range a).all λb=>!g.testBit b || vS rs T b x p
theorem cI (rs:List xG) (T g:Nat) (x:Tab) (a:Nat) (p:Nat × Nat):sH rs T g x (a+1) p=(sH rs T g x a p&&(!g.testBit a || vS rs T a x p)):=by unfold sH; rw [List.range_succ,ζ,η,θ,χ]
end Te
theorem Zs {nx kc ks:Nat} {km:Nat->Nat} {xZ:List (Nat × Ob)} {rs:List xG} {A F T g:Nat} {φ:Nat × Nat->Bool} (ok:OkR rs A F T) (hS:mD rs A F T kc ks km xZ) (hg:g<2 ^ 60) :
  xY prog 157 [.ref kc 6 0 0,.int .i64 (g:Int),.sl 1 (zI rs.length T φ)] ⟨nx,xZ⟩ (.sl 1 (zI rs.length T (uS rs A T g φ))) ⟨nx,xZ⟩:=by
 obtain⟨T1,T16⟩:=ok.hT;obtain⟨R1,R64⟩:=ok.hR;have hA4:=ok.hA;have hRT:=ok.hP;refine xY.wR ⟨_,func157,by kernel_rfl,by kernel_rfl⟩ λhu=>xY.clean ?_;have hc:=hS.c;have bc:=(hu _ _ hc).1;simp only at bc
 have hk1:∀ {objs':List (Nat × Ob)},(∀ k,k<nx->St.look objs' k=St.look xZ k)->mD rs A F T kc ks km objs':=λh=>hS.mono λk o hk=>by have:=(hu k o hk).1;simp only at this;rw [h k this]; exact hk
 have hfill:=lh (nx:=nx) (xZ:=xZ) (φ:=λ_=>true) (g:=206) (caps:=[]) ok hS.c λnx1 objs1 i t _ _ _ _=>RY;refine xY.xP mixed func157 LI (by simp) λhf=>?_;simp only [simprocAttr,-ZA,↓zU,↓zD,zV,zT,zW]
 (repeat refine sd ?_)
 refine .go hfill ?_;have hT0:=TI.start (nx:=nx) (R:=rs.length) (T:=T) (φ:=λ_=>true) (xZ:=xZ);have hc0:=(hT0.old kc bc).trans hS.c;simp only [simprocAttr,-ZA,↓zU,↓zD,zV,zT,zW,hc0]
 (repeat refine sd ?_)
 refine zZ (λa:Nat × Nat × List (Nat × Ob)=>[(19,.int .i64 a.1),(18,.int .i64 A),(7,.osl nx 1 rs.length),(2,.sl 1 (zI rs.length T φ)),(1,.int .i64 g),(0,.ref kc 6 0 0)]) (λa=>⟨a.2.1,a.2.2⟩)
  (λa=>a.1<=A/\TI rs.length T nx rs.length (λi=>nx+1+i) (λi t=>sH rs T g φ a.1 (i,t)) a.2.1 xZ a.2.2) (λa=>A-a.1) (0,nx+1+rs.length,oo nx rs.length T (λ_=>true)++ xZ) ⟨Aa _,hT0⟩ ?_ ?_
 ·(refine xN.same ?_; simp [xQ,Fr.get])
 clear hT0 hc0 hfill;rintro ⟨a,nx1,objs1⟩ ⟨ha,hT⟩;simp only at ha hT ⊢;refine xO mixed ?_;by_cases hal:a<A
 case neg=>
  have hd:¬ ((a:Int)<(A:Int)):=by omega
  obtain rfl:a=A:=by omega
  simp only [simprocAttr,-ZA,↓zU,↓zD,zV,zT,zW,hd];refine .go _ _ (tj (s:=7) (φ:=uS rs a T g φ) hu rfl hT (λi t _ _=>rfl) rfl) ?_;simp only [simprocAttr,-ZA,↓zU,↓zD,zV,zT,zW];exact YB hu
 have hd:((a:Int)<(A:Int)):=by omega
 have hbit:=Yf (g:=g) (a:=a) hg (by omega)
 cases hb:g.testBit a with
 | false=>
  rw [hb] at hbit;simp only [ω,if_false] at hbit;simp only [simprocAttr,-ZA,↓zU,↓zD,zV,zT,zW,hd,hbit]
  (repeat refine sd ?_)
  refine⟨(a+1,nx1,objs1),⟨by show a+1<=A; omega,hT.congr λi t _ _=>?_⟩,?zs1,by show A-(a+1)<A-a; omega⟩
  case zs1=>
   (refine xN.same ?_; simp only [xQ,Fr.get,simprocAttr,-ZA,zS])
   exact yB (by omega)
  ·simp only; rw [cI,hb]; simp
 | true=>
  rw [hb] at hbit;simp only [if_true] at hbit;have hSa:=hk1 hT.old;have hca:=hSa.c;have hk:=gv (nx:=nx1) (φ:=φ) ok hSa hal;simp only [simprocAttr,-ZA,↓zU,↓zD,zV,zT,zW,hd,hbit]
  (repeat refine sd ?_)
  refine .go hk ?_;have hin:Inb rs T (ptN T (rs.length*T)):=lD T1 (Ad _);have hln:=vR T (rs.length*T);have hlg:∀ w,w<rs.length*T->(ptN T (rs.length*T)).getD w (0,0)= (w / T,w % T):=λw h=>yj T h;generalize ptN T (rs.length*T)= l at hca hin hln hlg;simp only [simprocAttr,-ZA,↓zU,↓zD,zV,zT,zW,hca,yR]
  (repeat refine sd ?_)
  refine zZ (λc:Nat × Nat × List (Nat × Ob)=>[(36,.int .i64 c.1),(35,.int .i64 l.length),(34,.sl 2 (ptR l)),(9,.sl 1 (zI rs.length T (vS rs T a φ))),(19,.int .i64 a),(18,.int .i64 A),(7,.osl nx 1 rs.length),(2,.sl 1 (zI rs.length T φ)),(1,.int .i64 g),(0,.ref kc 6 0 0)]) (λc=>⟨c.2.1,c.2.2⟩)
   (λc=>c.1<=l.length/\TI rs.length T nx rs.length (λi=>nx+1+i) (λi t=>sH rs T g φ a (i,t)&& (!decide (i*T+t<c.1) || vS rs T a φ (i,t))) c.2.1 xZ c.2.2) (λc=>l.length-c.1) (0,nx1,objs1) ⟨Aa _,hT.congr λi t _ _=>by simp⟩ ?_ ?_
  ·(refine xN.same ?_; simp [xQ,Fr.get])
  clear hT hca hk hSa;rintro ⟨w,nx2,objs2⟩ ⟨hw,hT⟩;simp only at hw hT ⊢;have n1:=hT.n1;refine xO mixed ?_;by_cases hwl:w<l.length
  case neg=>
   have hd2:¬ ((w:Int)<(l.length:Int)):=by omega
   simp only [simprocAttr,-ZA,↓zU,↓zD,zV,zT,zW,hd2];refine .zA ?_;simp only [simprocAttr,-ZA,↓zU,↓zD,zV,zT,zW];refine⟨(a+1,nx2,objs2),⟨by show a+1<=A; omega,hT.congr λi t hi ht=>?_⟩,?zs2,by show A-(a+1)<A-a; omega⟩
   case zs2=>
    (refine xN.same ?_; simp only [xQ,Fr.get,simprocAttr,-ZA,zS])
    exact yB (by omega)
   ·have:=Nat.mul_le_mul_right T (show i+1<=rs.length from hi);rw [Nat.succ_mul] at this;simp only;rw [cI,hb,decide_eq_true (by omega)]
  have hd2:((w:Int)<(l.length:Int)):=by omega
  have hp:=hin _ (xR (d:=(0,0)) hwl);have hpg:=uL l hwl;have hpe:=hlg w (by omega);have hwe:(w / T)* T+w % T=w:=by rw [Ae]; exact Nat.div_add_mod w T
  rw [hpe] at hp hpg;generalize w / T=i at hp hpg hwe;generalize w % T=t at hp hpg hwe;simp only at hp hpg;obtain⟨hp1,hp2⟩:=hp;obtain⟨a1,a2,a3⟩:=hT.lr i hp1;have lo:=hT.lo;have hrow:=eO (T:=T) (kr:=λi=>nx+1+i) hp1 hp1;have y1:¬ nx2=nx:=by omega
  have y2:¬ nx2=nx+1+i:=by omega
  have g1:=wL (T:=T) (φ:=vS rs T a φ) hp1;have g2:=vB (i:=i) (φ:=vS rs T a φ) hp2;have g3:=YA (v:=λt=>sH rs T g φ a (i,t)&& (!decide (i*T+t<w) || vS rs T a φ (i,t))) hp2;have hnow:(sH rs T g φ a (i,t)&& (!decide (i*T+t<w) || vS rs T a φ (i,t)))= sH rs T g φ a (i,t):=by rw [hwe]; simp
  have hset:=YE (w:=w) (v:=λt=>sH rs T g φ a (i,t)&& (!decide (i*T+t<w) || vS rs T a φ (i,t))) (v':=λt=>sH rs T g φ a (i,t)&& (!decide (i*T+t<w+1) || vS rs T a φ (i,t))) (b:=sH rs T g φ a (i,t)&& vS rs T a φ (i,t)) hp2 (λk hk hne=>by
   have:decide (i*T+k<w)= decide (i*T+k<w+1):=by rw [ξ,decide_eq_true_iff,decide_eq_true_iff]; omega
   simp only [this]) (by simp only [hwe,decide_eq_true (Ab w)]; rfl) hwe
  have hupd:=λnx' (objs':List (Nat × Ob))=>hT.upd (nx':=nx') (objs':=objs') (v':=λi t=>sH rs T g φ a (i,t)&& (!decide (i*T+t<w+1) || vS rs T a φ (i,t)));rw [hnow] at g3;generalize sH rs T g φ a (i,t)= c at g3 hset
  have hv:∀ j u,j<rs.length->u<T->j≠i->(sH rs T g φ a (j,u)&& (!decide (j*T+u<w) || vS rs T a φ (j,u)))= (sH rs T g φ a (j,u)&& (!decide (j*T+u<w+1) || vS rs T a φ (j,u))):=λj u _ hu2 hne=>by
   have:decide (j*T+u<w)= decide (j*T+u<w+1):=by rw [ξ,decide_eq_true_iff,decide_eq_true_iff];have:j*T+u≠w:=λe=>hne (N4 hu2 hp2 (by rw [e,hwe])).1;omega
   rw [this]
  cases c with
  | true=>
   rw [υ] at hset;simp only [simprocAttr,-ZA,↓zU,↓zD,zV,zT,zW,hd2,yR,hpg,lo,a3,hrow,qO,y1,y2,zY,g1,g2,g3,wW,δ,γ]
   (repeat refine sd ?_)
   refine⟨(w+1,nx2+1,?zo0),⟨by show w+1<=l.length; omega,hT.upd (Ac _) hp1 hv (λk hk hk2=>?_) ?_⟩,?zt0,by show l.length-(w+1)<l.length-w; omega⟩
   case zt0=>
    (refine xN.same ?_; simp only [xQ,Fr.get,simprocAttr,-ZA,zS])
    exact yB (by omega)
   ·simp only; rw [xX,if_neg (by omega),xW,if_neg (λe=>hk2 e.symm)]
   ·simp only; rw [xX,if_neg (by omega),xW,if_pos rfl,a3,<- hset]; rfl
  | false=>
   rw [τ] at hset;simp only [simprocAttr,-ZA,↓zU,↓zD,zV,zT,zW,hd2,yR,hpg,lo,a3,hrow,qO,y1,y2,zY,g1,g2,g3,wW,δ,γ]
   (repeat refine sd ?_)
   refine⟨(w+1,nx2+1,?zo1),⟨by show w+1<=l.length; omega,hT.upd (Ac _) hp1 hv (λk hk hk2=>?_) ?_⟩,?zt1,by show l.length-(w+1)<l.length-w; omega⟩
   case zt1=>
    (refine xN.same ?_; simp only [xQ,Fr.get,simprocAttr,-ZA,zS])
    exact yB (by omega)
   ·simp only; rw [xX,if_neg (by omega),xW,if_neg (λe=>hk2 e.symm)]
   ·simp only; rw [xX,if_neg (by omega),xW,if_pos rfl,a3,<- hset]; rfl
end
section
open Rs Fm Ru Te
namespace Te
def SI (rs:List xG) (g a:Nat) (p q:Nat × Nat):Bool:=(List.range a).all λb=>!g.testBit b || decide (yJ rs b p=yJ rs b q)
theorem ZR (rs:List xG) (g a:Nat) (p q:Nat × Nat):SI rs g (a+1) p q=(SI rs g a p q&&(!g.testBit a || decide (yJ rs a p=yJ rs a q))):=by unfold SI; rw [List.range_succ,ζ,η,θ,χ]
structure Ij (rs : List xG) (A T a : Nat) (p : Nat × Nat) (r : xG) (x : List Int) : Prop where
 g1:(zL rs).getD p.1 []=r.row
 l1:r.loc.length=T
 g2:(rl r.loc).getD p.2 [] = [.sl 1 (rows .i64 x)]
 l2:x.length=A
 g3:(rows .i64 x).getD a [] = [.int .i64 (yJ rs a p)]
theorem MW {rs:List xG} {A F T a:Nat} (ok:OkR rs A F T) (ha:a<A) {p:Nat × Nat} (hp:p.1<rs.length/\p.2<T):∃ r x,Ij rs A T a p r x:=by have hm:=xR (d:=tX) hp.1;have h1:=ok.loc _ hm;have h2:=ok.row _ hm _ (xR (d:=[]) (show p.2<(rs.getD p.1 tX).loc.length by omega));exact⟨_,_,vF rs hp.1,h1,tH _ (by omega),h2,yV .i64 _ (by omega)⟩
end Te
theorem QI {nx k1 k2 k3 kc:Nat} {xZ:List (Nat × Ob)} {rs:List xG} {A F T g:Nat} {same:D} {φ:Nat × Nat->Bool} (ok:OkR rs A F T) (hg:g<2 ^ 60)
  (h1:St.look xZ k1=some ⟨1,[[.ref kc 6 0 0]]⟩) (h2:St.look xZ k2=some ⟨1,[[.int .i64 (g:Int)]]⟩) (h3:St.look xZ k3=some ⟨1,[[.sl 1 (zI rs.length T φ)]]⟩)
  (hc:St.look xZ kc=some ⟨6,[[.int .i64 (A:Int),.int .i64 (F:Int),.int .i64 (T:Int),.sl 2 (zL rs),.sl 2 (ptR (ptN T (rs.length*T))),same]]⟩) {i t:Nat} (hi:i<rs.length) (ht:t<T) :
  xY prog 207 ([.agg [.int .i64 (i:Int),.int .i64 (t:Int)]] ++ [.ref k1 1 0 0,.ref k2 1 0 0,.ref k3 1 0 0]) ⟨nx,xZ⟩ (.bool (bP rs A T g φ (i,t))) ⟨nx,xZ⟩:=by
 obtain⟨T1,T16⟩:=ok.hT;obtain⟨R1,R64⟩:=ok.hR;have hA4:=ok.hA;have hRT:=ok.hP;refine xY.wR ⟨_,func207,by kernel_rfl,by kernel_rfl⟩ λhu=>xY.clean ?_;have b1:k1<nx:=(hu k1 _ h1).1;have b2:k2<nx:=(hu k2 _ h2).1;have b3:k3<nx:=(hu k3 _ h3).1;have bc:kc<nx:=(hu kc _ hc).1;have y1:¬ nx=k1:=by omega
 have yc:¬ nx=kc:=by omega
 have hkeep:∀ (nx':Nat) (objs':List (Nat × Ob)),(∀ k,k<nx->St.look objs' k=St.look xZ k)->∀ k o,St.look xZ k=some o->St.get ⟨nx',objs'⟩ k=some o:=λnx' objs' h k o hk=>by have:=(hu k o hk).1;simp only at this;show St.look objs' k=_;rw [h k this]; exact hk
 have hin:Inb rs T (ptl rs T):=lD T1 (Ad _);have hln:(ptl rs T).length=rs.length*T:=vR T (rs.length*T);have hd0:bP rs A T g φ (i,t)= (ptl rs T).all λq=>!XK rs A g (i,t) q || φ q:=rfl;rw [hd0];rw [show ptN T (rs.length*T)= ptl rs T from rfl] at hc;generalize ptl rs T=l at hc hin hln;refine xY.xP mixed func207 Lr (by simp) λhf=>?_;simp only [simprocAttr,-ZA,↓zU,↓zD,zV,zT,zW,h1,hc,y1,yc,yR]
 (repeat refine sd ?_)
 refine xT (λb:Nat × Nat × List (Nat × Ob)=>[(15,.int .i64 b.1),(14,.int .i64 l.length),(13,.sl 2 (ptR l)),(4,.ref nx 2 0 0),(3,.ref k3 1 0 0),(2,.ref k2 1 0 0),(1,.ref k1 1 0 0)]) (λb=>⟨b.2.1,b.2.2⟩)
  (λb=>b.1<=l.length/\nx<b.2.1/\(∀ k,k<nx->St.look b.2.2 k=St.look xZ k)/\ St.look b.2.2 nx=some ⟨2,[[.int .i64 (i:Int),.int .i64 (t:Int)]]⟩/\ ((l.take b.1).all λq=>!XK rs A g (i,t) q || φ q)= true) (λb=>l.length-b.1)
  (0,nx+1,(nx,⟨2,[[.int .i64 (i:Int),.int .i64 (t:Int)]]⟩) :: xZ) ⟨Aa _,Ab _,λk hk=>?_,?_,rfl⟩ ?_ ?_
 ·simp only; rw [xX,if_neg (by omega)]
 ·simp only; rw [xX,if_pos rfl]
 ·(refine xN.same ?_; simp [xQ,Fr.get])
 rintro ⟨w,nx1,objs1⟩ ⟨hw,hn,hold,hbox,hall⟩;simp only at hw hn hold hbox hall ⊢;have e1:=(hold _ b1).trans h1;have e2:=(hold _ b2).trans h2;have e3:=(hold _ b3).trans h3;have ec:=(hold _ bc).trans hc;refine xO mixed ?_;by_cases hwl:w<l.length
 case neg=>
  have hd:¬ ((w:Int)<(l.length:Int)):=by omega
  rw [ε (by omega)] at hall;simp only [simprocAttr,-ZA,↓zU,↓zD,zV,zT,zW,hd];exact .gone hu (hkeep _ _ hold) (by simp only [vw]; rw [hall])
 have hd:((w:Int)<(l.length:Int)):=by omega
 have hp:=hin _ (xR (d:=(0,0)) hwl);have hpm:=xR (d:=(0,0)) hwl;have hpg:=uL l hwl
 have htk:l.take (w+1)= l.take w ++ [l.getD w (0,0)]:=by rw [ν];congr 1;simp [List.getD,hwl]
 generalize l.getD w (0,0)= q at hp hpg htk hpm;have z1:¬ nx1=k1:=by omega
 have z2:¬ nx1=k2:=by omega
 have z3:¬ nx1=k3:=by omega
 have zc:¬ nx1=kc:=by omega
 have zb:¬ nx1=nx:=by omega
 simp only [simprocAttr,-ZA,↓zU,↓zD,zV,zT,zW,hd,yR,hpg,e1,ec,z1,zc]
 (repeat refine sd ?_)
 refine zZ (λa:Nat=>[(24,.int .i64 a),(23,.int .i64 A),(15,.int .i64 w),(14,.int .i64 l.length),(13,.sl 2 (ptR l)),(8,.bool (SI rs g a (i,t) q)),(7,.ref nx1 2 0 0),(4,.ref nx 2 0 0),(3,.ref k3 1 0 0),(2,.ref k2 1 0 0),(1,.ref k1 1 0 0)])
  (λ_=>⟨nx1+1,(nx1,⟨2,[[.int .i64 (q.1:Int),.int .i64 (q.2:Int)]]⟩) :: objs1⟩) (λa=>a<=A) (λa=>A-a) 0 (Aa _) ?_ ?_
 ·(refine xN.same ?_; simp [xQ,Fr.get,SI])
 intro a ha;refine xO mixed ?_;by_cases hal:a<A
 case neg=>
  have hd2:¬ ((a:Int)<(A:Int)):=by omega
  obtain rfl:a=A:=by omega
  have ht0:XK rs a g (i,t) q=SI rs g a (i,t) q:=rfl;have g1:=wL (T:=T) (φ:=φ) hp.1;have g2:=vB (i:=q.1) (φ:=φ) hp.2;simp only [simprocAttr,-ZA,↓zU,↓zD,zV,zT,zW,hd2];refine .zA ?_
  cases hk:SI rs g a (i,t) q with
  | false=>
   simp only [simprocAttr,-ZA,↓zU,↓zD,zV,zT,zW];refine⟨(w+1,nx1+1,?zo0),⟨by show w+1<=l.length; omega,by show nx<nx1+1; omega,λk hk=>?_,?_,?_⟩,?zt0,by show l.length-(w+1)<l.length-w; omega⟩
   case zt0=>
    (refine xN.same ?_; simp only [xQ,Fr.get,simprocAttr,-ZA,zS])
    exact yB (by omega)
   ·simp only; rw [xX,if_neg (by omega)]; exact hold k hk
   ·simp only; rw [xX,if_neg (by omega)]; exact hbox
   ·simp only; rw [htk,ζ,hall,η,ht0,hk,θ]; rfl
  | true=>
   cases hx:φ q with
   | false=>
    simp only [simprocAttr,-ZA,↓zU,↓zD,zV,zT,zW,z3,e3,zY,g1,g2,wW,δ,γ,hx]
    (repeat refine sd ?_)
    refine .gone hu (hkeep _ _ λk hk=>?_) ?_
    ·rw [xX,if_neg (by omega)]; exact hold k hk
    ·simp only [vw];congr 1
     symm
     rw [<- Bool.not_eq_true,List.all_eq_true];intro h;have:=h q hpm;rw [ht0,hk,hx] at this;cases this
   | true=>
    simp only [simprocAttr,-ZA,↓zU,↓zD,zV,zT,zW,z3,e3,zY,g1,g2,wW,δ,γ,hx]
    (repeat refine sd ?_)
    refine⟨(w+1,nx1+1,?zo1),⟨by show w+1<=l.length; omega,by show nx<nx1+1; omega,λk hk=>?_,?_,?_⟩,?zt1,by show l.length-(w+1)<l.length-w; omega⟩
    case zt1=>
     (refine xN.same ?_; simp only [xQ,Fr.get,simprocAttr,-ZA,zS])
     exact yB (by omega)
    ·simp only; rw [xX,if_neg (by omega)]; exact hold k hk
    ·simp only; rw [xX,if_neg (by omega)]; exact hbox
    ·simp only; rw [htk,ζ,hall,η,ht0,hk,θ]; rw [hx]; rfl
 have hd2:((a:Int)<(A:Int)):=by omega
 have hbit:=Yf (g:=g) (a:=a) hg (by omega);have hsu:=ZR rs g a (i,t) q
 cases hb:g.testBit a with
 | false=>
  rw [hb] at hbit hsu;simp only [ω,if_false] at hbit;simp only [Bool.not_false,π,χ] at hsu;simp only [simprocAttr,-ZA,↓zU,↓zD,zV,zT,zW,hd2,e2,z2,hbit]
  (repeat refine sd ?_)
  refine⟨a+1,by omega,?_,by omega⟩
  (refine xN.same ?_; simp only [xQ,Fr.get,simprocAttr,-ZA,zS,hsu])
  exact yB (by omega)
 | true=>
  rw [hb] at hbit hsu;simp only [if_true] at hbit;simp only [Bool.not_true,ο] at hsu;obtain⟨r,x,hr⟩:=MW ok hal (p:=(i,t)) ⟨hi,ht⟩;obtain⟨r',x',hr'⟩:=MW ok hal hp;have u1:=hr.g1; have u2:=hr.l1; have u3:=hr.g2; have u4:=hr.l2; have u5:=hr.g3;have v1:=hr'.g1; have v2:=hr'.l1; have v3:=hr'.g2; have v4:=hr'.l2; have v5:=hr'.g3;simp only at u1 u3
  by_cases he:yJ rs a (i,t)= yJ rs a q
  ·have hen:(yJ rs a (i,t) != yJ rs a q)= false:=by simpa using he
   simp only [simprocAttr,-ZA,↓zU,↓zD,zV,zT,zW,hd2,e1,e2,ec,z1,z2,zc,zb,hbox,hbit,xJ,u1,u2,u3,u4,u5,v1,v2,v3,v4,v5,xG.row,yD,yZ,hen]
   (repeat refine sd ?_)
   refine⟨a+1,by omega,?_,by omega⟩
   (refine xN.same ?_; simp only [xQ,Fr.get,simprocAttr,-ZA,zS,hsu,he])
   exact⟨yB (by omega),by simp⟩
  ·have hen:(yJ rs a (i,t) != yJ rs a q)= true:=by simpa using he
   simp only [simprocAttr,-ZA,↓zU,↓zD,zV,zT,zW,hd2,e1,e2,ec,z1,z2,zc,zb,hbox,hbit,xJ,u1,u2,u3,u4,u5,v1,v2,v3,v4,v5,xG.row,yD,yZ,hen]
   (repeat refine sd ?_)
   refine⟨a+1,by omega,?_,by omega⟩
   (refine xN.same ?_; simp only [xQ,Fr.get,simprocAttr,-ZA,zS,hsu,he])
   exact⟨yB (by omega),by simp⟩
end
section
open Rs Fm Ru Te
theorem Ny {nx kc:Nat} {xZ:List (Nat × Ob)} {rs:List xG} {A F T g:Nat} {same:D} {φ:Nat × Nat->Bool} (ok:OkR rs A F T) (hg:g<2 ^ 60)
  (hc:St.look xZ kc=some ⟨6,[[.int .i64 (A:Int),.int .i64 (F:Int),.int .i64 (T:Int),.sl 2 (zL rs),.sl 2 (ptR (ptN T (rs.length*T))),same]]⟩) :
  xY prog 159 [.ref kc 6 0 0,.int .i64 (g:Int),.sl 1 (zI rs.length T φ)] ⟨nx,xZ⟩ (.sl 1 (zI rs.length T (bP rs A T g φ))) ⟨nx,xZ⟩:=by
 refine xY.wR ⟨_,func159,by kernel_rfl,by kernel_rfl⟩ λhu=>xY.clean ?_;have hkc:=(hu kc _ hc).1;simp only at hkc
 have hkeep:∀ (a b c:Ob) k o,St.look xZ k=some o->St.look ((nx+1+1,a) :: (nx+1,b) :: (nx,c) :: xZ) k=some o:=λa b c k o hk=>by have:=(hu k o hk).1;simp only at this;rw [xX,if_neg (by omega),xX,if_neg (by omega),xX,if_neg (by omega)]; exact hk
 have hfill:=lB (nx:=nx+1+1+1) (kc:=kc) (xZ:=(nx+1+1,⟨1,[[.sl 1 (zI rs.length T φ)]]⟩) :: (nx+1,⟨1,[[.int .i64 (g:Int)]]⟩) :: (nx,⟨1,[[.ref kc 6 0 0]]⟩) :: xZ) (g:=207) (caps:=[.ref nx 1 0 0,.ref (nx+1) 1 0 0,.ref (nx+1+1) 1 0 0]) (φ:=bP rs A T g φ) ok (hkeep _ _ _ _ _ hc) (λnx1 objs1 i t h1 h2 hi ht=> QI ok hg (by rw [h2 _ (by omega),xX,if_neg (by omega),xX,if_neg (by omega),xX,if_pos rfl]) (by rw [h2 _ (by omega),xX,if_neg (by omega),xX,if_pos rfl]) (by rw [h2 _ (by omega),xX,if_pos rfl]) (by rw [h2 _ (by omega)]; exact hkeep _ _ _ _ _ hc) hi ht)
 refine xY.xP mixed func159 LK (by simp) λhf=>?_;have y1:¬ nx+1=nx:=by omega
 have y2:¬ nx+1+1=nx:=by omega
 simp only [simprocAttr,-ZA,↓zU,↓zD,zV,zT,zW,y1,y2]
 (repeat refine sd ?_)
 refine .go hfill ?_;simp only [simprocAttr,-ZA,↓zU,↓zD,zV,zT,zW];exact .gone hu (hkeep _ _ _) (by simp only [vw]; exact⟨trivial,trivial⟩)
theorem WC {nx k1 k2 k3:Nat} {xZ:List (Nat × Ob)} {R T:Nat} {x y z:Nat × Nat->Bool} (hR:R<=1000) (hT:T<=1000)
  (h1:St.look xZ k1=some ⟨1,[[.sl 1 (zI R T x)]]⟩) (h2:St.look xZ k2=some ⟨1,[[.sl 1 (zI R T y)]]⟩) (h3:St.look xZ k3=some ⟨1,[[.sl 1 (zI R T z)]]⟩) {i t:Nat} (hi:i<R) (ht:t<T) :
  xY prog 209 ([.agg [.int .i64 (i:Int),.int .i64 (t:Int)]] ++ [.ref k1 1 0 0,.ref k2 1 0 0,.ref k3 1 0 0]) ⟨nx,xZ⟩ (.bool (!x (i,t) || (y (i,t)&& z (i,t)))) ⟨nx,xZ⟩:=by
 refine xY.wR ⟨_,func209,by kernel_rfl,by kernel_rfl⟩ λhu=>xY.clean ?_;have y1:¬ nx=k1:=by have:=(hu k1 _ h1).1; simp only at this; omega
 have y2:¬ nx=k2:=by have:=(hu k2 _ h2).1; simp only at this; omega
 have y3:¬ nx=k3:=by have:=(hu k3 _ h3).1; simp only at this; omega
 have hkeep:∀ (ob:Ob) k o,St.look xZ k=some o->St.get ⟨nx+1,(nx,ob) :: xZ⟩ k=some o:=λob k o hk=>by have:=(hu k o hk).1;simp only at this;show St.look (_ :: _) k=_;rw [xX,if_neg (by omega)]; exact hk
 have a1:=wL (T:=T) (φ:=x) hi;have a2:=vB (i:=i) (φ:=x) ht;have b1:=wL (T:=T) (φ:=y) hi;have b2:=vB (i:=i) (φ:=y) ht;have c1:=wL (T:=T) (φ:=z) hi;have c2:=vB (i:=i) (φ:=z) ht;refine xY.xP mixed func209 Lt (by simp) λhf=>?_
 cases hx:x (i,t) with
 | false=>
  rw [hx] at a2;simp only [simprocAttr,-ZA,↓zU,↓zD,zV,zT,zW,h1,y1,zY,a1,a2,wW,δ,γ]
  (repeat refine sd ?_)
  exact .gone hu (hkeep _) (by simp only [vw]; rfl)
 | true=>
  rw [hx] at a2
  cases hy:y (i,t) with
  | false=>
   rw [hy] at b2;simp only [simprocAttr,-ZA,↓zU,↓zD,zV,zT,zW,h1,h2,y1,y2,zY,a1,a2,b1,b2,wW,δ,γ]
   (repeat refine sd ?_)
   exact .gone hu (hkeep _) (by simp only [vw]; rfl)
  | true=>
   rw [hy] at b2;simp only [simprocAttr,-ZA,↓zU,↓zD,zV,zT,zW,h1,h2,h3,y1,y2,y3,zY,a1,a2,b1,b2,c1,c2,wW,δ,γ]
   (repeat refine sd ?_)
   exact .gone hu (hkeep _) (by simp only [vw]; rfl)
structure Te.PD (nx R T : Nat) (xZ : List (Nat × Ob)) (x y z : Tab) (nx' : Nat) (objs' : List (Nat × Ob)) : Prop where
 n1:nx+1+1<nx'
 old:∀ k,k<nx->St.look objs' k=St.look xZ k
 k0:St.look objs' nx=some ⟨1,[[.sl 1 (zI R T x)]]⟩
 k1:St.look objs' (nx+1)= some ⟨1,[[.sl 1 (zI R T y)]]⟩
 k2:St.look objs' (nx+1+1)= some ⟨1,[[.sl 1 (zI R T z)]]⟩
theorem Te.PD.more {nx R T nx' nx'':Nat} {xZ objs' objs'':List (Nat × Ob)} {x y z:Tab} (h:PD nx R T xZ x y z nx' objs') (hn:nx'<=nx'') (hl:∀ k,k<nx'->St.look objs'' k=St.look objs' k):PD nx R T xZ x y z nx'' objs'':=by have n1:=h.n1;exact⟨by omega,λk hk=>by rw [hl k (by omega)]; exact h.old k hk,by rw [hl _ (by omega)]; exact h.k0,by rw [hl _ (by omega)]; exact h.k1,by rw [hl _ (by omega)]; exact h.k2⟩
theorem TM {nx kc ks:Nat} {km:Nat->Nat} {xZ:List (Nat × Ob)} {rs:List xG} {A F T g:Nat} {x y:Nat × Nat->Bool} (ok:OkR rs A F T) (hS:mD rs A F T kc ks km xZ) (hg:g<2 ^ 60) :
  xY prog 161 [.ref kc 6 0 0,.int .i64 (g:Int),.sl 1 (zI rs.length T x),.sl 1 (zI rs.length T y)] ⟨nx,xZ⟩ (.sl 1 (zI rs.length T (sC rs A T g x y))) ⟨nx,xZ⟩:=by
 obtain⟨T1,T16⟩:=ok.hT;obtain⟨R1,R64⟩:=ok.hR;have hRT:=ok.hP;refine xY.wR ⟨_,func161,by kernel_rfl,by kernel_rfl⟩ λhu=>xY.clean ?_;have bc:kc<nx:=(hu _ _ hS.c).1
 have hk1:∀ {objs':List (Nat × Ob)},(∀ k,k<nx->St.look objs' k=St.look xZ k)->mD rs A F T kc ks km objs':=λh=>hS.mono λk o hk=>by have:=(hu k o hk).1;simp only at this;rw [h k this]; exact hk
 have h0:∀ k,k<nx->St.look ((nx+1,⟨1,[[D.sl 1 (zI rs.length T y)]]⟩) :: (nx,⟨1,[[.sl 1 (zI rs.length T x)]]⟩) :: xZ) k=St.look xZ k:=λk hk=>by rw [xX,if_neg (by omega),xX,if_neg (by omega)]
 have hfill:=lB (nx:=nx+1+1) (kc:=kc) (φ:=λ_=>true) (g:=208) (caps:=[]) ok (hk1 h0).c λnx1 objs1 i t _ _ _ _=>RX;refine xY.xP mixed func161 LN (by simp) λhf=>?_;simp only [simprocAttr,-ZA,↓zU,↓zD,zV,zT,zW]
 (repeat refine sd ?_)
 refine .go hfill ?_;simp only [simprocAttr,-ZA,↓zU,↓zD,zV,zT,zW]
 (repeat refine sd ?_)
 have w1:¬ nx+1+1=nx:=by omega
 have w2:¬ nx+1+1=nx+1:=by omega
 refine xT (λ_:Nat × Nat × List (Nat × Ob)=>[(9,.ref (nx+1+1) 1 0 0),(7,.ref (nx+1) 1 0 0),(6,.ref nx 1 0 0),(1,.int .i64 g),(0,.ref kc 6 0 0)]) (λa=>⟨a.2.1,a.2.2⟩)
  (λa=>a.1+Vj rs A T g x y a.1<=rs.length*T/\PD nx rs.length T xZ x y (tY rs A T g x y a.1) a.2.1 a.2.2) (λa=>Vj rs A T g x y a.1)
  (0,nx+1+1+1,(nx+1+1,⟨1,[[.sl 1 (zI rs.length T λ_=>true)]]⟩) :: (nx+1,⟨1,[[.sl 1 (zI rs.length T y)]]⟩) :: (nx,⟨1,[[.sl 1 (zI rs.length T x)]]⟩) :: xZ) ⟨by rw [qg]; omega,⟨Ab _,λk hk=>?_,?_,?_,?_⟩⟩ ?_ ?_
 ·simp only; rw [xX,if_neg (by omega),xX,if_neg (by omega),xX,if_neg (by omega)]
 ·simp only; rw [xX,if_neg (by omega),xX,if_neg (by omega),xX,if_pos rfl]
 ·simp only; rw [xX,if_neg (by omega),xX,if_pos rfl]
 ·simp only; rw [xX,if_pos rfl]; rfl
 ·(refine xN.same ?_; simp [xQ,Fr.get])
 rintro ⟨n,nx1,objs1⟩ ⟨hn,hI⟩;simp only at hn hI ⊢;have n1:=hI.n1;have hS1:=hk1 hI.old
 have hf2:=lB (nx:=nx1) (xZ:=objs1) (kc:=kc) (φ:=λp=>!x p || (y p&&tY rs A T g x y n p)) (g:=209) (caps:=[.ref nx 1 0 0,.ref (nx+1) 1 0 0,.ref (nx+1+1) 1 0 0]) ok hS1.c (λnx2 objs2 i t h1 h2 hi ht=> WC (by omega) (by omega) (by rw [h2 _ (by omega)]; exact hI.k0) (by rw [h2 _ (by omega)]; exact hI.k1) (by rw [h2 _ (by omega)]; exact hI.k2) hi ht)
 have he:=Zs (nx:=nx1) (φ:=λp=>!x p || (y p&&tY rs A T g x y n p)) ok hS1 hg;rw [show uS rs A T g (λp=>!x p || (y p&&tY rs A T g x y n p))= tY rs A T g x y (n+1) from rfl] at he;have hc1:=hS1.c;have hin:Inb rs T (ptl rs T):=lD T1 (Ad _);have hln:(ptl rs T).length=rs.length*T:=vR T (rs.length*T);have hst:(∀ p ∈ ptl rs T,tY rs A T g x y (n+1) p=tY rs A T g x y n p)->zI rs.length T (tY rs A T g x y n)= zI rs.length T (sC rs A T g x y):=λh=>aU λi t hi ht=>Xj (by omega) h (lZ T1 hi ht);have hls:(∃ p ∈ ptl rs T,tY rs A T g x y (n+1) p≠tY rs A T g x y n p)->Vj rs A T g x y (n+1)<Vj rs A T g x y n:=cY;rw [show ptN T (rs.length*T)= ptl rs T from rfl] at hc1;generalize ptl rs T=l at hc1 hin hln hst hls;refine xO mixed ?_;simp only [simprocAttr,-ZA,↓zU,↓zD,zV,zT,zW];refine .go hf2 ?_;simp only [simprocAttr,-ZA,↓zU,↓zD,zV,zT,zW];refine .go he ?_;simp only [simprocAttr,-ZA,↓zU,↓zD,zV,zT,zW,hc1,yR]
 (repeat refine sd ?_)
 refine zZ (λb:Nat × Nat × List (Nat × Ob)=>[(29,.int .i64 b.1),(28,.int .i64 l.length),(27,.sl 2 (ptR l)),(12,.bool ((l.take b.1).any λp=>tY rs A T g x y (n+1) p != tY rs A T g x y n p)),(11,.sl 1 (zI rs.length T (tY rs A T g x y (n+1)))),(9,.ref (nx+1+1) 1 0 0),(7,.ref (nx+1) 1 0 0),(6,.ref nx 1 0 0),(1,.int .i64 g),(0,.ref kc 6 0 0)]) (λa=>⟨a.2.1,a.2.2⟩)
  (λb=>b.1<=l.length/\PD nx rs.length T xZ x y (tY rs A T g x y n) b.2.1 b.2.2) (λb=>l.length-b.1) (0,nx1,objs1) ⟨Aa _,hI⟩ ?_ ?_
 ·(refine xN.same ?_; simp [xQ,Fr.get])
 clear hI hS1 hf2 he hc1 n1;rintro ⟨w,nx2,objs2⟩ ⟨hw,hI⟩;simp only at hw hI ⊢;have n1:=hI.n1;have e2:=hI.k2;refine xO mixed ?_;by_cases hwl:w<l.length
 case neg=>
  have hd:¬ ((w:Int)<(l.length:Int)):=by omega
  rw [ε (show l.length<=w by omega)];simp only [simprocAttr,-ZA,↓zU,↓zD,zV,zT,zW,hd];refine .zA ?_
  cases hch:l.any λp=>tY rs A T g x y (n+1) p != tY rs A T g x y n p with
  | false=>
   simp only [simprocAttr,-ZA,↓zU,↓zD,zV,zT,zW,e2]
   have hst':=hst λp hp=>by have:=List.any_eq_false.1 hch p hp;simpa using this
   rw [hst'];refine .gone hu (λk o hk=>?_) (by simp only [vw]; exact⟨trivial,trivial⟩);have:=(hu k o hk).1;simp only at this;show St.look objs2 k=_;rw [hI.old k this]; exact hk
  | true=>
   simp only [simprocAttr,-ZA,↓zU,↓zD,zV,zT,zW,e2]
   (repeat refine sd ?_)
   have hls':=hls (by obtain⟨p,hp,hne⟩:=List.any_eq_true.1 hch;exact⟨p,hp,by simpa using hne⟩)
   refine⟨(n+1,nx2,?zo0),⟨by simp only; omega,⟨n1,λk hk=>?_,?_,?_,?_⟩⟩,?zt0,hls'⟩
   case zt0=>(refine xN.same ?_; simp [xQ,Fr.get])
   all_goals simp only
   ·rw [xW,if_neg (by omega)]; exact hI.old k hk
   ·rw [xW,if_neg (by omega)]; exact hI.k0
   ·rw [xW,if_neg (by omega)]; exact hI.k1
   ·rw [xW,if_pos rfl,e2]; rfl
 have hd:((w:Int)<(l.length:Int)):=by omega
 have hp:=hin _ (xR (d:=(0,0)) hwl);have hpg:=uL l hwl
 have htk:l.take (w+1)= l.take w ++ [l.getD w (0,0)]:=by rw [ν];congr 1;simp [List.getD,hwl]
 generalize l.getD w (0,0)= p at hp hpg htk
 have hany:((l.take (w+1)).any λp=>tY rs A T g x y (n+1) p != tY rs A T g x y n p)= (((l.take w).any λp=>tY rs A T g x y (n+1) p != tY rs A T g x y n p) || (tY rs A T g x y (n+1) p != tY rs A T g x y n p)):=by rw [htk,List.any_append,List.any_cons,List.any_nil,Bool.or_false]
 generalize ((l.take w).any λp=>tY rs A T g x y (n+1) p != tY rs A T g x y n p)= c at hany;have a1:=wL (T:=T) (φ:=tY rs A T g x y (n+1)) hp.1;have a2:=vB (i:=p.1) (φ:=tY rs A T g x y (n+1)) hp.2;have b1:=wL (T:=T) (φ:=tY rs A T g x y n) hp.1;have b2:=vB (i:=p.1) (φ:=tY rs A T g x y n) hp.2;have z2:¬ nx2=nx+1+1:=by omega
 cases c with
 | true=>
  simp only [simprocAttr,-ZA,↓zU,↓zD,zV,zT,zW,hd,yR,hpg]
  (repeat refine sd ?_)
  refine⟨(w+1,nx2+1,?zo1),⟨by show w+1<=l.length; omega,hI.more (Ac _) λk hk=>?_⟩,?zt1,by show l.length-(w+1)<l.length-w; omega⟩
  case zt1=>
   (refine xN.same ?_; simp only [xQ,Fr.get,simprocAttr,-ZA,zS,hany,π,ο])
   exact yB (by omega)
  ·simp only; rw [xX,if_neg (by omega)]
 | false=>
  simp only [simprocAttr,-ZA,↓zU,↓zD,zV,zT,zW,hd,yR,hpg,e2,z2,zY,a1,a2,b1,b2,wW,δ,γ]
  (repeat refine sd ?_)
  refine⟨(w+1,nx2+1,?zo2),⟨by show w+1<=l.length; omega,hI.more (Ac _) λk hk=>?_⟩,?zt2,by show l.length-(w+1)<l.length-w; omega⟩
  case zt2=>
   (refine xN.same ?_; simp only [xQ,Fr.get,simprocAttr,-ZA,zS,hany,π,ο])
   exact yB (by omega)
  ·simp only; rw [xX,if_neg (by omega)]
end
section
open Rs Fm Ru Te
namespace Te
def idU (T:Nat) (s:Int) (t:Nat):Nat:=if 0<s then T-1-t else t
theorem Sc {T:Nat} {s:Int} {k:Nat} (h:k<T):tmU T s k<T/\idU T s (tmU T s k)= k:=by unfold idU tmU;split <;> omega
theorem Qc {T:Nat} {s:Int} {t k:Nat} (h:t<T) (hk:k<T) (e:idU T s t=k):t=tmU T s k:=by
 unfold idU at e;unfold tmU
 by_cases h0:0<s
 ·rw [if_pos h0] at e ⊢; omega
 ·rw [if_neg h0] at e ⊢; omega
theorem Rb {T:Nat} {s:Int} {x y:Tab} {i t:Nat} (h:t<T):Vp T s x y (i,t)= XH T s x y i (idU T s t+1):=by
 unfold Vp idU
 by_cases h0:0<s
 ·simp only [if_pos h0];rw [show T-1-t+1=T-t by omega]
 ·simp only [if_neg h0]
def xl (T:Nat) (s:Int) (x y:Tab) (r k i t:Nat):Bool:=decide (i<r\/(i=r/\idU T s t<k))&& Vp T s x y (i,t)
theorem ZU {T:Nat} {s:Int} {x y:Tab} {r k i t:Nat} (ht:t<T) (hk:k<T) (h:i≠r\/t≠tmU T s k):xl T s x y r k i t=xl T s x y r (k+1) i t:=by
 unfold xl;congr 1;rw [ξ,decide_eq_true_iff,decide_eq_true_iff]
 constructor
 ·rintro (a | ⟨a,b⟩)
  ·exact .inl a
  ·exact .inr ⟨a,by omega⟩
 ·rintro (a | ⟨a,b⟩)
  ·exact .inl a
  ·refine .inr ⟨a,?_⟩
   rcases Nat.lt_or_ge (idU T s t) k with h1 | h1
   ·exact h1
   ·have:=Qc ht hk (show idU T s t=k by omega)
    rcases h with h | h
    ·exact absurd a h
    ·exact absurd this h
theorem VA {T:Nat} {s:Int} {x y:Tab} {r k:Nat} (hk:k<T):xl T s x y r (k+1) r (tmU T s k)= XH T s x y r (k+1):=by obtain⟨h1,h2⟩:=Sc (s:=s) hk;unfold xl;rw [Rb h1,h2,decide_eq_true (.inr ⟨rfl,Ab k⟩)];rfl
theorem VB {T:Nat} {s:Int} {x y:Tab} {r i t:Nat} (ht:t<T):xl T s x y r T i t=xl T s x y (r+1) 0 i t:=by
 unfold xl;congr 1;rw [ξ,decide_eq_true_iff,decide_eq_true_iff];have:idU T s t<T:=by unfold idU; split <;> omega
 constructor
 ·rintro (a | ⟨a,b⟩)
  ·exact .inl (by omega)
  ·exact .inl (by omega)
 ·rintro (a | ⟨a,b⟩)
  ·rcases Nat.lt_or_ge i r with h | h
   ·exact .inl h
   ·exact .inr ⟨by omega,this⟩
  ·omega
theorem ZV {T:Nat} {s:Int} {x y:Tab} {i t:Nat}:xl T s x y 0 0 i t=false:=by unfold xl;rw [decide_eq_false (by omega)]; rfl
theorem V9 {T:Nat} {s:Int} {x y:Tab} {R i t:Nat} (h:i<R):xl T s x y R 0 i t=Vp T s x y (i,t):=by unfold xl;rw [decide_eq_true (.inl h)]; rfl
end Te
theorem YR {nx kc:Nat} {xZ:List (Nat × Ob)} {rs:List xG} {A F T:Nat} {same:D} {x y:Nat × Nat->Bool} {s:Int} (ok:OkR rs A F T)
  (hc:St.look xZ kc=some ⟨6,[[.int .i64 (A:Int),.int .i64 (F:Int),.int .i64 (T:Int),.sl 2 (zL rs),.sl 2 (ptR (ptN T (rs.length*T))),same]]⟩) :
  xY prog 166 [.ref kc 6 0 0,.sl 1 (zI rs.length T x),.sl 1 (zI rs.length T y),.int .i64 s] ⟨nx,xZ⟩ (.sl 1 (zI rs.length T (Vp T s x y))) ⟨nx,xZ⟩:=by
 obtain⟨T1,T16⟩:=ok.hT;obtain⟨R1,R64⟩:=ok.hR;refine xY.wR ⟨_,func166,by kernel_rfl,by kernel_rfl⟩ λhu=>xY.clean ?_;have bc:kc<nx:=(hu _ _ hc).1;have hfill:=lh (nx:=nx) (xZ:=xZ) (φ:=λ_=>false) (g:=211) (caps:=[]) ok hc λnx1 objs1 i t _ _ _ _=>TW;have hT0:=TI.start (nx:=nx) (R:=rs.length) (T:=T) (φ:=λ_=>false) (xZ:=xZ);refine xY.xP mixed func166 LU (by simp) λhf=>?_;simp only [simprocAttr,-ZA,↓zU,↓zD,zV,zT,zW]
 (repeat refine sd ?_)
 refine .go hfill ?_;simp only [simprocAttr,-ZA,↓zU,↓zD,zV,zT,zW]
 (repeat refine sd ?_)
 refine zZ (λb:Nat × List (Nat × Ob)=>[(18,.int .i64 b.1),(17,.int .i64 rs.length),(9,.osl nx 1 rs.length),(3,.int .i64 s),(2,.sl 1 (zI rs.length T y)),(1,.sl 1 (zI rs.length T x)),(0,.ref kc 6 0 0)]) (λb=>⟨nx+1+rs.length,b.2⟩)
  (λb=>b.1<=rs.length/\TI rs.length T nx rs.length (λi=>nx+1+i) (xl T s x y b.1 0) (nx+1+rs.length) xZ b.2) (λb=>rs.length-b.1) (0,oo nx rs.length T (λ_=>false)++ xZ) ⟨Aa _,hT0.congr λi t _ _=>ZV.symm⟩ ?_ ?_
 ·(refine xN.same ?_; simp [xQ,Fr.get])
 clear hT0 hfill;rintro ⟨r,objs1⟩ ⟨hr,hT⟩;simp only at hr hT ⊢;have n1:=hT.n1;have hc1:=(hT.old kc bc).trans hc;refine xO mixed ?_;by_cases hrl:r<rs.length
 case neg=>
  have hd:¬ ((r:Int)<(rs.length:Int)):=by omega
  obtain rfl:r=rs.length:=by omega
  simp only [simprocAttr,-ZA,↓zU,↓zD,zV,zT,zW,hd];refine .go _ _ (tj (s:=9) (φ:=Vp T s x y) hu rfl hT (λi t hi _=>V9 hi) rfl) ?_;simp only [simprocAttr,-ZA,↓zU,↓zD,zV,zT,zW];exact YB hu
 have hd:((r:Int)<(rs.length:Int)):=by omega
 simp only [simprocAttr,-ZA,↓zU,↓zD,zV,zT,zW,hd,hc1]
 (repeat refine sd ?_)
 refine zZ (λb:Nat × List (Nat × Ob)=>[(26,.int .i64 b.1),(25,.int .i64 T),(11,.bool (XH T s x y r b.1)),(10,.int .i64 r),(18,.int .i64 r),(17,.int .i64 rs.length),(9,.osl nx 1 rs.length),(3,.int .i64 s),(2,.sl 1 (zI rs.length T y)),(1,.sl 1 (zI rs.length T x)),(0,.ref kc 6 0 0)]) (λb=>⟨nx+1+rs.length,b.2⟩)
  (λb=>b.1<=T/\TI rs.length T nx rs.length (λi=>nx+1+i) (xl T s x y r b.1) (nx+1+rs.length) xZ b.2) (λb=>T-b.1) (0,objs1) ⟨Aa _,hT⟩ ?_ ?_
 ·(refine xN.same ?_; simp [xQ,Fr.get,XH])
 clear hT hc1;rintro ⟨k,objs2⟩ ⟨hk,hT⟩;simp only at hk hT ⊢;have hc1:=(hT.old kc bc).trans hc;refine xO mixed ?_;by_cases hkl:k<T
 case neg=>
  have hd2:¬ ((k:Int)<(T:Int)):=by omega
  obtain rfl:k=T:=by omega
  simp only [simprocAttr,-ZA,↓zU,↓zD,zV,zT,zW,hd2];refine .zA ?_;simp only [simprocAttr,-ZA,↓zU,↓zD,zV,zT,zW];refine⟨(r+1,objs2),⟨by show r+1<=rs.length; omega,hT.congr λi t _ ht=>VB ht⟩,?_,by show rs.length-(r+1)<rs.length-r; omega⟩
  (refine xN.same ?_; simp only [xQ,Fr.get,simprocAttr,-ZA,zS])
  exact yB (by omega)
 have hd2:((k:Int)<(T:Int)):=by omega
 obtain⟨hp2,hid⟩:=Sc (s:=s) hkl;have hstep:=λi t=>ZU (T:=T) (s:=s) (x:=x) (y:=y) (r:=r) (k:=k) (i:=i) (t:=t);have hnew:=VA (s:=s) (x:=x) (y:=y) (r:=r) hkl;have hrun:XH T s x y r (k+1)= (y (r,tmU T s k) || (x (r,tmU T s k)&& XH T s x y r k)):=rfl;rw [hrun] at hnew;obtain⟨a1,a2,a3⟩:=hT.lr r hrl;have lo:=hT.lo;have hrow:=eO (T:=T) (kr:=λi=>nx+1+i) hrl hrl;have hset:=YE (w:=r*T+tmU T s k) (v:=xl T s x y r k r) (v':=xl T s x y r (k+1) r) hp2 (λj hj hne=>hstep r j hj hkl (.inr hne)) hnew rfl;have hte:tmU T s k=if 0<s then T-1-k else k:=rfl;generalize tmU T s k=t at hp2 hrun hset hte hstep;have f1:=wL (T:=T) (φ:=x) hrl;have f2:=vB (i:=r) (φ:=x) hp2;have g1:=wL (T:=T) (φ:=y) hrl;have g2:=vB (i:=r) (φ:=y) hp2;have f3:=YA (v:=xl T s x y r k r) hp2;generalize x (r,t)= bx at f2 hrun hset;generalize y (r,t)= by_ at g2 hrun hset;generalize XH T s x y r k=bk at hrun hset
 have hend:∀ (f:Fr),xQ f [(26,.int .i64 ((k+1:Nat):Int)),(25,.int .i64 T),(11,.bool (XH T s x y r (k+1))),(10,.int .i64 r),(18,.int .i64 r),(17,.int .i64 rs.length),(9,.osl nx 1 rs.length),(3,.int .i64 s),(2,.sl 1 (zI rs.length T y)),(1,.sl 1 (zI rs.length T x)),(0,.ref kc 6 0 0)]->∃ a':Nat × List (Nat × Ob),
   (a'.1<=T/\TI rs.length T nx rs.length (λi=>nx+1+i) (xl T s x y r a'.1) (nx+1+rs.length) xZ a'.2)/\
   xN ⟨prog,69,nx,[],none⟩ f ⟨nx+1+rs.length,vN objs2 (nx+1+r) ⟨1,(rbR ((List.range T).map (xl T s x y r k r))).set t [D.bool (by_ || (bx&&bk))]⟩⟩
    [(26,.int .i64 a'.1),(25,.int .i64 T),(11,.bool (XH T s x y r a'.1)),(10,.int .i64 r),(18,.int .i64 r),(17,.int .i64 rs.length),(9,.osl nx 1 rs.length),(3,.int .i64 s),(2,.sl 1 (zI rs.length T y)),(1,.sl 1 (zI rs.length T x)),(0,.ref kc 6 0 0)] ⟨nx+1+rs.length,a'.2⟩/\ T-a'.1<T-k:=by
  intro f hf
  refine⟨(k+1,_),⟨by show k+1<=T; omega,hT.upd (Ad _) hrl (λj u _ hu2 hne=>hstep j u hu2 hkl (.inl hne)) (λj hj hj2=>?_) ?_⟩,xN.same hf,by show T-(k+1)<T-k; omega⟩
  ·simp only; rw [xW,if_neg (λe=>hj2 e.symm)]
  ·simp only; rw [xW,if_pos rfl,a3,hset]; rfl
 by_cases h0:0<s
 ·rw [if_pos h0] at hte;have e1:IntKind.i64.wrap ((T:Int)-1)= (T:Int)-1:=wrap_i64 (by omega);have e2:IntKind.i64.wrap ((T:Int)-1-(k:Int))= (t:Int):=by rw [wrap_i64 (by omega)]; omega
  have e3:=yB (k:=k) (by omega);cases by_ <;> cases bx <;> (simp only [simprocAttr,-ZA,↓zU,↓zD,zV,zT,zW,hd2,h0,hc1,e1,e2,f3,zY,f1,f2,g1,g2,wW,δ,γ,lo,a3,hrow,qO]; (repeat refine sd ?_); refine hend _ ?_; simp only [xQ,Fr.get,↓reduceIte,reduceIte,Nat.reduceEqDiff,reduceCtorEq,and_true,true_and,and_self,e3,hrun,π,ο,υ,τ])
 ·rw [if_neg h0] at hte;subst hte;have e3:=yB (k:=t) (by omega);cases by_ <;> cases bx <;> (simp only [simprocAttr,-ZA,↓zU,↓zD,zV,zT,zW,hd2,h0,hc1,f3,zY,f1,f2,g1,g2,wW,δ,γ,lo,a3,hrow,qO]; (repeat refine sd ?_); refine hend _ ?_; simp only [xQ,Fr.get,↓reduceIte,reduceIte,Nat.reduceEqDiff,reduceCtorEq,and_true,true_and,and_self,e3,hrun,π,ο,υ,τ])
end
section
open Rs Fm Ru Te
namespace Te
theorem O2 (s:BitVec 64) (k:Nat):((s >>> k)&&& 1#64==1#64)= s.getLsbD k:=by
 rw [ξ,beq_iff_eq]
 constructor
 ·intro h;have:=congrArg (λv=>v.getLsbD 0) h;simpa using this
 ·intro h;refine BitVec.eq_of_getLsbD_eq λi hi=>?_;simp only [BitVec.getLsbD_and,BitVec.getLsbD_ushiftRight,BitVec.getLsbD_one]
  by_cases h0:i=0
  ·subst h0; simp [h]
  ·simp [h0]
structure PX (d : D) : Prop where
 c:d.cells=some [d]
 o:d.one=true
theorem PX.sl (n:Nat) (e:List (List D)):PX (.sl n e):=⟨rfl,rfl⟩
theorem PX.xK : PX .xK:=⟨rfl,rfl⟩
structure ib (n : Nd) (R T : Nat) (x y : Tab) (xd yd : D) : Prop where
 hx:(xV n.op).1.x=true->xd = .sl 1 (zI R T x)
 hy:(xV n.op).1.y=true->yd = .sl 1 (zI R T y)
end Te
theorem Ns {nx k5 k4 k6 k7 kc:Nat} {xZ:List (Nat × Ob)} {rs:List xG} {A F T:Nat} {l:List (Nat × Nat)} {same xd yd:D} {n:Nd} {x y:Nat × Nat->Bool} (ok:OkR rs A F T) (ho:ib n rs.length T x y xd yd) (hi3:n.op=3->0<=n.i)
  (h5:St.look xZ k5=some ⟨6,[n.row]⟩) (h4:St.look xZ k4=some ⟨1,[[.ref kc 6 0 0]]⟩) (h6:St.look xZ k6=some ⟨1,[[xd]]⟩) (h7:St.look xZ k7=some ⟨1,[[yd]]⟩)
  (hc:St.look xZ kc=some ⟨6,[[.int .i64 (A:Int),.int .i64 (F:Int),.int .i64 (T:Int),.sl 2 (zL rs),.sl 2 (ptR l),same]]⟩) {i t:Nat} (hi:i<rs.length) (ht:t<T) :
  xY prog 168 ([.agg [.int .i64 (i:Int),.int .i64 (t:Int)]] ++ [.ref k5 6 0 0,.ref k4 1 0 0,.ref k6 1 0 0,.ref k7 1 0 0]) ⟨nx,xZ⟩ (.bool (yz rs n x y (i,t))) ⟨nx,xZ⟩:=by
 obtain⟨T1,T16⟩:=ok.hT;obtain⟨R1,R64⟩:=ok.hR;refine xY.wR ⟨_,func168,by kernel_rfl,by kernel_rfl⟩ λhu=>xY.clean ?_;have y5:¬ nx=k5:=by have:=(hu k5 _ h5).1; simp only at this; omega
 have y4:¬ nx=k4:=by have:=(hu k4 _ h4).1; simp only at this; omega
 have y6:¬ nx=k6:=by have:=(hu k6 _ h6).1; simp only at this; omega
 have y7:¬ nx=k7:=by have:=(hu k7 _ h7).1; simp only at this; omega
 have yc:¬ nx=kc:=by have:=(hu kc _ hc).1; simp only at this; omega
 have hend:∀ (ob:Ob) (d:Bool),d=yz rs n x y (i,t)->jM nx ⟨nx+1,(nx,ob) :: xZ⟩ (.bool d) ⟨nx,cln xZ⟩ (.bool (yz rs n x y (i,t))):=λob d hd=>.gone hu (λk o hk=>by have:=(hu k o hk).1;simp only at this;show St.look (_ :: _) k=_;rw [xX,if_neg (by omega)]; exact hk) (by simp only [vw,hd])
 obtain⟨hx,hy⟩:=ho
 have hbp:yz rs n x y (i,t)= (if n.op=1 then true else if n.op=3 then(xe rs (i,t)).getLsbD n.i.toNat else if n.op=4 then !x (i,t) else if n.op=5 then x (i,t)&& y (i,t) else if n.op=6 then x (i,t) || y (i,t)
  else if n.op=7 then !x (i,t) || y (i,t) else if n.op=8 then x (i,t)== y (i,t) else false):=rfl
 rw [Nd.row] at h5;obtain⟨op,ni,ne,ng,nx_,ny⟩:=n;simp only at hx hy hi3 h5 hbp;have hm:=xR (d:=tX) hi;have hgr:=vF rs hi;have hf:=ok.fac _ hm;have hfa:(rs.getD i tX).fac.getD t 0=xe rs (i,t):=rfl;generalize rs.getD i tX=r at hgr hf hfa;have hg2:=vI r.fac (show t<r.fac.length by omega);rw [hfa] at hg2;generalize xe rs (i,t)= fa at hg2 hbp;have f1:=wL (T:=T) (φ:=x) hi;have f2:=vB (i:=i) (φ:=x) ht;have g1:=wL (T:=T) (φ:=y) hi;have g2:=vB (i:=i) (φ:=y) ht;refine xY.xP mixed func168 LZ (by simp) λhf=>?_
 by_cases e1:op=1
 ·subst e1;simp only [simprocAttr,-ZA,↓zU,↓zD,zV,zT,zW,h5,y5];exact hend _ _ (by rw [hbp]; rfl)
 have c1:(op==1)= false:=by simpa using e1
 rw [if_neg e1] at hbp
 by_cases e3:op=3
 ·subst e3;have hn:=hi3 rfl;simp only [simprocAttr,-ZA,↓zU,↓zD,zV,zT,zW,h5,h4,hc,y5,y4,yc,c1,xJ,hgr,xG.row,xI,hg2,hn]
  (repeat refine sd ?_)
  exact hend _ _ (by rw [hbp,O2]; rfl)
 have c3:(op==3)= false:=by simpa using e3
 rw [if_neg e3] at hbp
 by_cases e4:op=4
 ·subst e4;rw [hx rfl] at h6;simp only [simprocAttr,-ZA,↓zU,↓zD,zV,zT,zW,h5,h6,y5,y6,c1,c3,zY,f1,f2,wW,δ,γ]
  (repeat refine sd ?_)
  exact hend _ _ (by rw [hbp]; rfl)
 have c4:(op==4)= false:=by simpa using e4
 rw [if_neg e4] at hbp
 by_cases e5:op=5
 ·subst e5;rw [hx rfl] at h6;rw [hy rfl] at h7;generalize x (i,t)= bx at f2 hbp;cases bx <;> (simp only [simprocAttr,-ZA,↓zU,↓zD,zV,zT,zW,h5,h6,h7,y5,y6,y7,c1,c3,c4,zY,f1,f2,g1,g2,wW,δ,γ]; (repeat refine sd ?_); refine hend _ _ ?_; rw [hbp]; rfl)
 have c5:(op==5)= false:=by simpa using e5
 rw [if_neg e5] at hbp
 by_cases e6:op=6
 ·subst e6;rw [hx rfl] at h6;rw [hy rfl] at h7;generalize x (i,t)= bx at f2 hbp;cases bx <;> (simp only [simprocAttr,-ZA,↓zU,↓zD,zV,zT,zW,h5,h6,h7,y5,y6,y7,c1,c3,c4,c5,zY,f1,f2,g1,g2,wW,δ,γ]; (repeat refine sd ?_); refine hend _ _ ?_; rw [hbp]; rfl)
 have c6:(op==6)= false:=by simpa using e6
 rw [if_neg e6] at hbp
 by_cases e7:op=7
 ·subst e7;rw [hx rfl] at h6;rw [hy rfl] at h7;generalize x (i,t)= bx at f2 hbp;cases bx <;> (simp only [simprocAttr,-ZA,↓zU,↓zD,zV,zT,zW,h5,h6,h7,y5,y6,y7,c1,c3,c4,c5,c6,zY,f1,f2,g1,g2,wW,δ,γ]; (repeat refine sd ?_); refine hend _ _ ?_; rw [hbp]; rfl)
 have c7:(op==7)= false:=by simpa using e7
 rw [if_neg e7] at hbp
 by_cases e8:op=8
 ·subst e8;rw [hx rfl] at h6;rw [hy rfl] at h7;generalize x (i,t)= bx at f2 hbp;cases bx <;> (simp only [simprocAttr,-ZA,↓zU,↓zD,zV,zT,zW,h5,h6,h7,y5,y6,y7,c1,c3,c4,c5,c6,c7,zY,f1,f2,g1,g2,wW,δ,γ]; (repeat refine sd ?_); refine hend _ _ ?_; rw [hbp]; rfl)
 have c8:(op==8)= false:=by simpa using e8
 rw [if_neg e8] at hbp;simp only [simprocAttr,-ZA,↓zU,↓zD,zV,zT,zW,h5,y5,c1,c3,c4,c5,c6,c7,c8];exact hend _ _ (by rw [hbp])
theorem SU {nx kc:Nat} {xZ:List (Nat × Ob)} {rs:List xG} {A F T:Nat} {same xd yd:D} {n:Nd} {x y:Nat × Nat->Bool} (ok:OkR rs A F T) (ho:ib n rs.length T x y xd yd) (hi3:n.op=3->0<=n.i) (hxd:PX xd) (hyd:PX yd)
  (hc:St.look xZ kc=some ⟨6,[[.int .i64 (A:Int),.int .i64 (F:Int),.int .i64 (T:Int),.sl 2 (zL rs),.sl 2 (ptR (ptN T (rs.length*T))),same]]⟩) :
  xY prog 105 [.ref kc 6 0 0,.agg n.row,xd,yd] ⟨nx,xZ⟩ (.sl 1 (zI rs.length T (yz rs n x y))) ⟨nx,xZ⟩:=by
 refine xY.wR ⟨_,func105,by kernel_rfl,by kernel_rfl⟩ λhu=>xY.clean ?_;have hkc:=(hu kc _ hc).1;simp only at hkc
 have hkeep:∀ (a b c d:Ob) k o,St.look xZ k=some o->St.look ((nx+1+1+1,a) :: (nx+1+1,b) :: (nx+1,c) :: (nx,d) :: xZ) k=some o:=λa b c d k o hk=>by have:=(hu k o hk).1;simp only at this;rw [xX,if_neg (by omega),xX,if_neg (by omega),xX,if_neg (by omega),xX,if_neg (by omega)]; exact hk
 have hfill:=lB (nx:=nx+1+1+1+1) (kc:=kc) (xZ:=(nx+1+1+1,⟨1,[[yd]]⟩) :: (nx+1+1,⟨1,[[xd]]⟩) :: (nx+1,⟨6,[n.row]⟩) :: (nx,⟨1,[[.ref kc 6 0 0]]⟩) :: xZ) (g:=168) (caps:=[.ref (nx+1) 6 0 0,.ref nx 1 0 0,.ref (nx+1+1) 1 0 0,.ref (nx+1+1+1) 1 0 0]) (φ:=yz rs n x y) ok (hkeep _ _ _ _ _ _ hc) (λnx1 objs1 i t h1 h2 hi ht=> Ns ok ho hi3 (by rw [h2 _ (by omega),xX,if_neg (by omega),xX,if_neg (by omega),xX,if_pos rfl]) (by rw [h2 _ (by omega),xX,if_neg (by omega),xX,if_neg (by omega),xX,if_neg (by omega),xX,if_pos rfl]) (by rw [h2 _ (by omega),xX,if_neg (by omega),xX,if_pos rfl]) (by rw [h2 _ (by omega),xX,if_pos rfl]) (by rw [h2 _ (by omega)]; exact hkeep _ _ _ _ _ _ hc) hi ht)
 have y1:¬ nx+1=nx:=by omega
 have y2:¬ nx+1+1=nx:=by omega
 have y3:¬ nx+1+1+1=nx:=by omega
 rw [Nd.row] at hfill ⊢;refine xY.xP mixed func105 Kg (by simp) λhf=>?_;obtain⟨p1,p2⟩:=hxd;obtain⟨q1,q2⟩:=hyd;simp only [simprocAttr,-ZA,↓zU,↓zD,zV,zT,zW,y1,y2,y3,p1,p2,q1,q2]
 (repeat refine sd ?_)
 refine .go hfill ?_;simp only [simprocAttr,-ZA,↓zU,↓zD,zV,zT,zW];exact .gone hu (hkeep _ _ _ _) (by simp only [vw]; exact⟨trivial,trivial⟩)
end
end Go.Pd
