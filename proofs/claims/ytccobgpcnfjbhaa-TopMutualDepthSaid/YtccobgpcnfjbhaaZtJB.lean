/- Part JB. -/
import Derived.Test.YtccobgpcnfjbhaaZtJA
set_option linter.unusedSectionVars false
set_option linter.unusedVariables false
set_option linter.unusedSimpArgs false
set_option linter.defProp false
set_option maxRecDepth 20000
set_option maxHeartbeats 1000000
open Go.Proofs.Try
open List renaming length_range->γ,length_map->δ,take_of_length_le->ε,all_append->ζ,all_cons->η,all_nil->θ,mem_range->κ,map_congr_left->μ,take_add_one->ν
open Bool renaming eq_iff_iff->ξ,false_or->ο,true_or->π,false_and->υ,true_and->χ,and_true->ω,false_eq_true->Aa
open Nat renaming zero_le->Ab,lt_succ_self->Ac,le_succ->Ad,le_refl->Ae,mul_comm->Af
namespace Go.Pd
open Go Go.Proofs
open BitVec renaming isValue -> ZA
section
open Rs Fm Ru Te
namespace Te
theorem Ye {g a:Nat} (hg:g<2 ^ 60) (ha:a<=60):rL .and .i64 (ue .i64 (g:Int) (a:Int)) 1=if g.testBit a then 1 else 0:=by
 have h2:g / 2 ^ a<=g:=Nat.div_le_self _ _;rw [Yj _ _ ha,UF (by omega),Nat.testBit_eq_decide_div_mod_eq];have:=Nat.mod_two_eq_zero_or_one (g / 2 ^ a)
 rcases this with h | h
 ·rw [h]; rfl
 ·rw [h]; rfl
theorem yv {C:Cx} {f:Fr} {s nx nx2 R T:Nat} {xY objs2:List (Nat × Ob)} {kr:Nat->Nat} {v:Nat->Nat->Bool} {φ:Nat × Nat->Bool} (hu:lB ⟨nx,xY⟩) (hn:C.n0=nx) (hT:TI R T nx R kr v nx2 xY objs2)
  (hv:∀ i t,i<R->t<T->v i t=φ (i,t)) (hf:f.get s = .xP nx 1 R):yV C f ⟨nx2,objs2⟩ [(s,.xP nx 1 R)] ⟨nx2,(nx,⟨1,xD R T φ⟩) :: uj xY⟩:=by
 have n1:=hT.n1
 refine yV.view (λk=>k) (by show C.n0<=nx2; omega) (λ_ _=>rfl) ?_ ?_ (λp _ q _ e=>e)
 ·simp only [uk,hf,vw];exact⟨⟨by omega,trivial⟩,trivial⟩
 ·intro p hp
  rcases List.mem_cons.1 hp with rfl | hp
  ·refine⟨by show nx<nx2; omega,_,hT.lo,rfl,?_⟩;refine lP λi hi=>⟨by unfold eY; split <;> rfl,?_⟩;have hi':=κ.1 hi;obtain⟨b1,b2,b3⟩:=hT.lr i hi';unfold eY;rw [if_pos hi'];simp only [rN,vw,and_true]
   refine⟨trivial,by decide,λq hq=>?_,_,b3,rfl,by simp [oD],?_,?_⟩
   ·rcases List.mem_cons.1 hq with rfl | hq
    ·show nx≠kr i; omega
    ·have:=(hu q.1 q.2 (rS hq)).1;simp only at this;omega
   ·rw [ε (by simp [oD])];congr 1;exact μ λt ht=>(hv i t hi' (κ.1 ht)).symm
   ·intro e he;simp only [oD,List.mem_map] at he;obtain⟨b,_,rfl⟩:=he;rfl
  ·have hl:=rS hp;obtain⟨u1,u2⟩:=hu p.1 p.2 hl;simp only at u1 u2;refine⟨by show p.1<nx2; omega,p.2,?_,rfl,mM λe he=>tW (by show nx<=nx2; omega) (u2 e he)⟩;show St.look objs2 p.1=_;rw [hT.uJ p.1 u1]; exact hl
theorem ca {nx nx2 R T:Nat} {xY:List (Nat × Ob)} {φ:Nat × Nat->Bool} (hu:lB ⟨nx,xY⟩):eU nx ⟨nx2,(nx,⟨1,xD R T φ⟩) :: uj xY⟩ (.xP nx 1 R) ⟨nx,uj xY⟩ (.sl 1 (xD R T φ)):=by
 refine .gone hu (λk o hk=>?_) ?_
 ·have:=(hu k o hk).1;simp only at this;show St.look (_ :: _) k=_;rw [xX,if_neg (by omega),mJ]; exact hk
 ·simp only [vw]
  refine⟨trivial,by decide,λq hq=>?_,_,by rw [iz,xX,if_pos rfl],rfl,by simp [xD],(bR (show R=(xD R T φ).length by simp [xD])).symm,?_⟩
  ·have:=(hu q.1 q.2 (rS hq)).1;simp only at this;omega
  ·intro e he;simp only [xD,List.mem_map] at he;obtain⟨b,_,rfl⟩:=he;rfl
theorem TI.congr {R T nb r:Nat} {kr:Nat->Nat} {v v':Nat->Nat->Bool} {nx:Nat} {objs0 xY:List (Nat × Ob)} (h:TI R T nb r kr v nx objs0 xY) (hv:∀ i t,i<r->t<T->v i t=v' i t):TI R T nb r kr v' nx objs0 xY:=
 ⟨h.n1,h.uJ,h.lo,λi hi=>by obtain⟨a,b,c⟩:=h.lr i hi;refine⟨a,b,?_⟩;rw [c];congr 3;exact μ λt ht=>hv i t hi (κ.1 ht),h.dr⟩
theorem cb {T w i t:Nat} {v v':Nat->Bool} {b:Bool} (ht:t<T) (h:∀ k,k<T->k≠t->v k=v' k) (hb:v' t=b) (_:i*T+t=w):(oD ((List.range T).map v)).set t [D.bool b]=oD ((List.range T).map v'):=by
 refine List.ext_getElem (by simp [oD]) λk h1 h2=>?_;have hk:k<T:=by simpa [oD] using h2
 rw [List.getElem_set]
 by_cases e:t=k
 ·subst e;rw [if_pos rfl];simp [oD,hb]
 ·rw [if_neg e];simp only [oD,List.getElem_map,List.getElem_range,h k hk λe2=>e e2.symm]
theorem QR {T i t j u:Nat} (ht:t<T) (hu:u<T) (e:i*T+t=j*T+u):i=j/\t=u:=by
 have h1:(i*T+t)/ T=i:=by rw [Af,Nat.mul_add_div (by omega),Nat.div_eq_of_lt ht]; rfl
 have h2:(j*T+u)/ T=j:=by rw [Af,Nat.mul_add_div (by omega),Nat.div_eq_of_lt hu]; rfl
 rw [e] at h1;have:i=j:=h1.symm.trans h2;subst this;exact⟨rfl,by omega⟩
theorem bz {T t:Nat} {v:Nat->Bool} (h:t<T):(oD ((List.range T).map v)).getD t [] = [.bool (v t)]:=by simp [oD,List.getD,h]
def tD (rs:List xC) (T g:Nat) (x:rT) (a:Nat) (p:Nat × Nat):Bool:=(List.range a).all λb=>!g.testBit b || vG rs T b x p
theorem fE (rs:List xC) (T g:Nat) (x:rT) (a:Nat) (p:Nat × Nat):tD rs T g x (a+1) p=(tD rs T g x a p&&(!g.testBit a || vG rs T a x p)):=by unfold tD; rw [List.range_succ,ζ,η,θ,ω]
end Te
theorem bl {nx kc ks:Nat} {km:Nat->Nat} {xY:List (Nat × Ob)} {rs:List xC} {A F T g:Nat} {φ:Nat × Nat->Bool} (ok:iE rs A F T) (hS:tF rs A F T kc ks km xY) (hg:g<2 ^ 60) :
  xW prog 85 [.ref kc 6 0 0,.int .i64 (g:Int),.sl 1 (xD rs.length T φ)] ⟨nx,xY⟩ (.sl 1 (xD rs.length T (sE rs A T g φ))) ⟨nx,xY⟩:=by
 obtain⟨T1,T16⟩:=ok.hT;obtain⟨R1,R64⟩:=ok.hR;have hA4:=ok.hA;have hRT:=ok.hP;refine xW.wV ⟨_,func85,by kernel_rfl,by kernel_rfl⟩ λhu=>xW.clean ?_;have hc:=hS.c;have bc:=(hu _ _ hc).1;simp only at bc
 have hk1:∀ {objs':List (Nat × Ob)},(∀ k,k<nx->St.look objs' k=St.look xY k)->tF rs A F T kc ks km objs':=λh=>hS.mono λk o hk=>by have:=(hu k o hk).1;simp only at this;rw [h k this]; exact hk
 have hfill:=vm (nx:=nx) (xY:=xY) (φ:=λ_=>true) (g:=123) (caps:=[]) ok hS.c λnx1 objs1 i t _ _ _ _=>V4;refine zJ func85 Mu λhf=>?_;refine nA ?_;refine .go hfill ?_;have hT0:=TI.start (nx:=nx) (R:=rs.length) (T:=T) (φ:=λ_=>true) (xY:=xY);have hc0:=(hT0.uJ kc bc).trans hS.c;refine qV hc0 ?_
 refine uI (λa:Nat × Nat × List (Nat × Ob)=>[(19,.int .i64 a.1),(18,.int .i64 A),(7,.xP nx 1 rs.length),(2,.sl 1 (xD rs.length T φ)),(1,.int .i64 g),(0,.ref kc 6 0 0)]) (λa=>⟨a.2.1,a.2.2⟩)
  (λa=>a.1<=A/\TI rs.length T nx rs.length (λi=>nx+1+i) (λi t=>tD rs T g φ a.1 (i,t)) a.2.1 xY a.2.2) (λa=>A-a.1) (0,nx+1+rs.length,kH nx rs.length T (λ_=>true)++ xY) ⟨Ab _,hT0⟩ ?_ ?_
 ·exact sV
 clear hT0 hc0 hfill;rintro ⟨a,nx1,objs1⟩ ⟨ha,hT⟩;simp only at ha hT ⊢;refine wZ mixed ?_;by_cases hal:a<A
 case neg=>
  have hd:¬ ((a:Int)<(A:Int)):=by omega
  obtain rfl:a=A:=by omega
  refine yF hd ?_;refine .go _ _ (yv (s:=7) (φ:=sE rs a T g φ) hu rfl hT (λi t _ _=>rfl) rfl) ?_;refine yQ ?_;exact ca hu
 have hd:((a:Int)<(A:Int)):=by omega
 have hbit:=Ye (g:=g) (a:=a) hg (by omega)
 cases hb:g.testBit a with
 | false=>
  rw [hb] at hbit;simp only [Aa,if_false] at hbit;refine zg hd hbit ?_;refine⟨(a+1,nx1,objs1),⟨by show a+1<=A; omega,hT.congr λi t _ _=>?_⟩,?zs1,by show A-(a+1)<A-a; omega⟩
  case zs1=> exact zf
  ·simp only; rw [fE,hb]; simp
 | true=>
  rw [hb] at hbit;simp only [if_true] at hbit;have hSa:=hk1 hT.uJ;have hca:=hSa.c;have hk:=wo (nx:=nx1) (φ:=φ) ok hSa hal;refine zg hd hbit ?_;refine .go hk ?_;have hin:Ri rs T (mZ T (rs.length*T)):=gU T1 (Ae _);have hln:=pP T (rs.length*T);have hlg:∀ w,w<rs.length*T->(mZ T (rs.length*T)).getD w (0,0)= (w / T,w % T):=λw h=>bw T h;generalize mZ T (rs.length*T)= l at hca hin hln hlg;refine zg hca wJ ?_
  refine uI (λc:Nat × Nat × List (Nat × Ob)=>[(36,.int .i64 c.1),(35,.int .i64 l.length),(34,.sl 2 (pZ l)),(9,.sl 1 (xD rs.length T (vG rs T a φ))),(19,.int .i64 a),(18,.int .i64 A),(7,.xP nx 1 rs.length),(2,.sl 1 (xD rs.length T φ)),(1,.int .i64 g),(0,.ref kc 6 0 0)]) (λc=>⟨c.2.1,c.2.2⟩)
   (λc=>c.1<=l.length/\TI rs.length T nx rs.length (λi=>nx+1+i) (λi t=>tD rs T g φ a (i,t)&& (!decide (i*T+t<c.1) || vG rs T a φ (i,t))) c.2.1 xY c.2.2) (λc=>l.length-c.1) (0,nx1,objs1) ⟨Ab _,hT.congr λi t _ _=>by simp⟩ ?_ ?_
  ·exact sV
  clear hT hca hk hSa;rintro ⟨w,nx2,objs2⟩ ⟨hw,hT⟩;simp only at hw hT ⊢;have n1:=hT.n1;refine wZ mixed ?_;by_cases hwl:w<l.length
  case neg=>
   have hd2:¬ ((w:Int)<(l.length:Int)):=by omega
   refine yF hd2 ?_;refine .yY ?_;refine yQ ?_;refine⟨(a+1,nx2,objs2),⟨by show a+1<=A; omega,hT.congr λi t hi ht=>?_⟩,?zs2,by show A-(a+1)<A-a; omega⟩
   case zs2=> exact zf
   ·have:=Nat.mul_le_mul_right T (show i+1<=rs.length from hi);rw [Nat.succ_mul] at this;simp only;rw [fE,hb,decide_eq_true (by omega)]
  have hd2:((w:Int)<(l.length:Int)):=by omega
  have hp:=hin _ (zH (d:=(0,0)) hwl);have hpg:=lN l hwl;have hpe:=hlg w (by omega);have hwe:(w / T)* T+w % T=w:=by rw [Af]; exact Nat.div_add_mod w T
  rw [hpe] at hp hpg;generalize w / T=i at hp hpg hwe;generalize w % T=t at hp hpg hwe;simp only at hp hpg;obtain⟨hp1,hp2⟩:=hp;obtain⟨a1,a2,a3⟩:=hT.lr i hp1;have lo:=hT.lo;have hrow:=gK (T:=T) (kr:=λi=>nx+1+i) hp1 hp1;have y1:¬ nx2=nx:=by omega
  have y2:¬ nx2=nx+1+i:=by omega
  have g1:=wP (T:=T) (φ:=vG rs T a φ) hp1;have g2:=vB (i:=i) (φ:=vG rs T a φ) hp2;have g3:=bz (v:=λt=>tD rs T g φ a (i,t)&& (!decide (i*T+t<w) || vG rs T a φ (i,t))) hp2;have hnow:(tD rs T g φ a (i,t)&& (!decide (i*T+t<w) || vG rs T a φ (i,t)))= tD rs T g φ a (i,t):=by rw [hwe]; simp
  have hset:=cb (w:=w) (v:=λt=>tD rs T g φ a (i,t)&& (!decide (i*T+t<w) || vG rs T a φ (i,t))) (v':=λt=>tD rs T g φ a (i,t)&& (!decide (i*T+t<w+1) || vG rs T a φ (i,t))) (b:=tD rs T g φ a (i,t)&& vG rs T a φ (i,t)) hp2 (λk hk hne=>by
   have:decide (i*T+k<w)= decide (i*T+k<w+1):=by rw [ξ,decide_eq_true_iff,decide_eq_true_iff]; omega
   simp only [this]) (by simp only [hwe,decide_eq_true (Ac w)]; rfl) hwe
  have hupd:=λnx' (objs':List (Nat × Ob))=>hT.Re (nx':=nx') (objs':=objs') (v':=λi t=>tD rs T g φ a (i,t)&& (!decide (i*T+t<w+1) || vG rs T a φ (i,t)));rw [hnow] at g3;generalize tD rs T g φ a (i,t)= c at g3 hset
  have hv:∀ j u,j<rs.length->u<T->j≠i->(tD rs T g φ a (j,u)&& (!decide (j*T+u<w) || vG rs T a φ (j,u)))= (tD rs T g φ a (j,u)&& (!decide (j*T+u<w+1) || vG rs T a φ (j,u))):=λj u _ hu2 hne=>by
   have:decide (j*T+u<w)= decide (j*T+u<w+1):=by rw [ξ,decide_eq_true_iff,decide_eq_true_iff];have:j*T+u≠w:=λe=>hne (QR hu2 hp2 (by rw [e,hwe])).1;omega
   rw [this]
  cases c with
  | true=>
   rw [χ] at hset;simp only [simprocAttr,-ZA,↓zU,↓zD,zV,zT,zW,hd2,wJ,hpg,lo,a3,hrow,rA,y1,y2,yP,g1,g2,g3,wU,δ,γ]
   (repeat refine sd ?_)
   refine⟨(w+1,nx2+1,?zo0),⟨by show w+1<=l.length; omega,hT.Re (Ad _) hp1 hv (λk hk hk2=>?_) ?_⟩,?zt0,by show l.length-(w+1)<l.length-w; omega⟩
   case zt0=>
    (refine yV.same ?_; simp only [zL,Fr.get,simprocAttr,-ZA,zS])
    exact yB (by omega)
   ·simp only; rw [xX,if_neg (by omega),xT,if_neg (λe=>hk2 e.symm)]
   ·simp only; rw [xX,if_neg (by omega),xT,if_pos rfl,a3,<- hset]; rfl
  | false=>
   rw [υ] at hset;simp only [simprocAttr,-ZA,↓zU,↓zD,zV,zT,zW,hd2,wJ,hpg,lo,a3,hrow,rA,y1,y2,yP,g1,g2,g3,wU,δ,γ]
   (repeat refine sd ?_)
   refine⟨(w+1,nx2+1,?zo1),⟨by show w+1<=l.length; omega,hT.Re (Ad _) hp1 hv (λk hk hk2=>?_) ?_⟩,?zt1,by show l.length-(w+1)<l.length-w; omega⟩
   case zt1=>
    (refine yV.same ?_; simp only [zL,Fr.get,simprocAttr,-ZA,zS])
    exact yB (by omega)
   ·simp only; rw [xX,if_neg (by omega),xT,if_neg (λe=>hk2 e.symm)]
   ·simp only; rw [xX,if_neg (by omega),xT,if_pos rfl,a3,<- hset]; rfl
end
section
open Rs Fm Ru Te
namespace Te
def jm (rs:List xC) (g a:Nat) (p q:Nat × Nat):Bool:=(List.range a).all λb=>!g.testBit b || decide (uB rs b p=uB rs b q)
theorem u7 (rs:List xC) (g a:Nat) (p q:Nat × Nat):jm rs g (a+1) p q=(jm rs g a p q&&(!g.testBit a || decide (uB rs a p=uB rs a q))):=by unfold jm; rw [List.range_succ,ζ,η,θ,ω]
structure N7 (rs : List xC) (A T a : Nat) (p : Nat × Nat) (r : xC) (x : List Int) : Prop where
 g1:(uR rs).getD p.1 []=r.row
 l1:r.loc.length=T
 g2:(rl r.loc).getD p.2 [] = [.sl 1 (rows .i64 x)]
 l2:x.length=A
 g3:(rows .i64 x).getD a [] = [.int .i64 (uB rs a p)]
theorem RH {rs:List xC} {A F T a:Nat} (ok:iE rs A F T) (ha:a<A) {p:Nat × Nat} (hp:p.1<rs.length/\p.2<T):∃ r x,N7 rs A T a p r x:=by have hm:=zH (d:=pV) hp.1;have h1:=ok.loc _ hm;have h2:=ok.row _ hm _ (zH (d:=[]) (show p.2<(rs.getD p.1 pV).loc.length by omega));exact⟨_,_,oN rs hp.1,h1,wu _ (by omega),h2,bP .i64 _ (by omega)⟩
end Te
theorem UN {nx k1 k2 k3 kc:Nat} {xY:List (Nat × Ob)} {rs:List xC} {A F T g:Nat} {same:D} {φ:Nat × Nat->Bool} (ok:iE rs A F T) (hg:g<2 ^ 60)
  (h1:St.look xY k1=some ⟨1,[[.ref kc 6 0 0]]⟩) (h2:St.look xY k2=some ⟨1,[[.int .i64 (g:Int)]]⟩) (h3:St.look xY k3=some ⟨1,[[.sl 1 (xD rs.length T φ)]]⟩)
  (hc:St.look xY kc=some ⟨6,[[.int .i64 (A:Int),.int .i64 (F:Int),.int .i64 (T:Int),.sl 2 (uR rs),.sl 2 (pZ (mZ T (rs.length*T))),same]]⟩) {i t:Nat} (hi:i<rs.length) (ht:t<T) :
  xW prog 124 ([.agg [.int .i64 (i:Int),.int .i64 (t:Int)]] ++ [.ref k1 1 0 0,.ref k2 1 0 0,.ref k3 1 0 0]) ⟨nx,xY⟩ (.bool (yz rs A T g φ (i,t))) ⟨nx,xY⟩:=by
 obtain⟨T1,T16⟩:=ok.hT;obtain⟨R1,R64⟩:=ok.hR;have hA4:=ok.hA;have hRT:=ok.hP;refine xW.wV ⟨_,func124,by kernel_rfl,by kernel_rfl⟩ λhu=>xW.clean ?_;have b1:k1<nx:=(hu k1 _ h1).1;have b2:k2<nx:=(hu k2 _ h2).1;have b3:k3<nx:=(hu k3 _ h3).1;have bc:kc<nx:=(hu kc _ hc).1;have y1:¬ nx=k1:=by omega
 have yc:¬ nx=kc:=by omega
 have hkeep:∀ (nx':Nat) (objs':List (Nat × Ob)),(∀ k,k<nx->St.look objs' k=St.look xY k)->∀ k o,St.look xY k=some o->St.get ⟨nx',objs'⟩ k=some o:=λnx' objs' h k o hk=>by have:=(hu k o hk).1;simp only at this;show St.look objs' k=_;rw [h k this]; exact hk
 have hin:Ri rs T (uC rs T):=gU T1 (Ae _);have hln:(uC rs T).length=rs.length*T:=pP T (rs.length*T);have hd0:yz rs A T g φ (i,t)= (uC rs T).all λq=>!WW rs A g (i,t) q || φ q:=rfl;rw [hd0];rw [show mZ T (rs.length*T)= uC rs T from rfl] at hc;generalize uC rs T=l at hc hin hln;refine zJ func124 RC λhf=>?_;refine TR h1 hc y1 yc wJ ?_
 refine zC (λb:Nat × Nat × List (Nat × Ob)=>[(15,.int .i64 b.1),(14,.int .i64 l.length),(13,.sl 2 (pZ l)),(4,.ref nx 2 0 0),(3,.ref k3 1 0 0),(2,.ref k2 1 0 0),(1,.ref k1 1 0 0)]) (λb=>⟨b.2.1,b.2.2⟩)
  (λb=>b.1<=l.length/\nx<b.2.1/\(∀ k,k<nx->St.look b.2.2 k=St.look xY k)/\ St.look b.2.2 nx=some ⟨2,[[.int .i64 (i:Int),.int .i64 (t:Int)]]⟩/\ ((l.take b.1).all λq=>!WW rs A g (i,t) q || φ q)= true) (λb=>l.length-b.1)
  (0,nx+1,(nx,⟨2,[[.int .i64 (i:Int),.int .i64 (t:Int)]]⟩) :: xY) ⟨Ab _,Ac _,λk hk=>?_,?_,rfl⟩ ?_ ?_
 ·simp only; rw [xX,if_neg (by omega)]
 ·simp only; rw [xX,if_pos rfl]
 ·exact sV
 rintro ⟨w,nx1,objs1⟩ ⟨hw,hn,hold,hbox,hall⟩;simp only at hw hn hold hbox hall ⊢;have e1:=(hold _ b1).trans h1;have e2:=(hold _ b2).trans h2;have e3:=(hold _ b3).trans h3;have ec:=(hold _ bc).trans hc;refine wZ mixed ?_;by_cases hwl:w<l.length
 case neg=>
  have hd:¬ ((w:Int)<(l.length:Int)):=by omega
  rw [ε (by omega)] at hall;refine yF hd ?_;exact .gone hu (hkeep _ _ hold) (by simp only [vw]; rw [hall])
 have hd:((w:Int)<(l.length:Int)):=by omega
 have hp:=hin _ (zH (d:=(0,0)) hwl);have hpm:=zH (d:=(0,0)) hwl;have hpg:=lN l hwl
 have htk:l.take (w+1)= l.take w ++ [l.getD w (0,0)]:=by rw [ν];congr 1;simp [List.getD,hwl]
 generalize l.getD w (0,0)= q at hp hpg htk hpm;have z1:¬ nx1=k1:=by omega
 have z2:¬ nx1=k2:=by omega
 have z3:¬ nx1=k3:=by omega
 have zc:¬ nx1=kc:=by omega
 have zb:¬ nx1=nx:=by omega
 refine RU hd wJ hpg e1 ec z1 zc ?_
 refine uI (λa:Nat=>[(24,.int .i64 a),(23,.int .i64 A),(15,.int .i64 w),(14,.int .i64 l.length),(13,.sl 2 (pZ l)),(8,.bool (jm rs g a (i,t) q)),(7,.ref nx1 2 0 0),(4,.ref nx 2 0 0),(3,.ref k3 1 0 0),(2,.ref k2 1 0 0),(1,.ref k1 1 0 0)])
  (λ_=>⟨nx1+1,(nx1,⟨2,[[.int .i64 (q.1:Int),.int .i64 (q.2:Int)]]⟩) :: objs1⟩) (λa=>a<=A) (λa=>A-a) 0 (Ab _) ?_ ?_
 ·(refine yV.same ?_; simp [zL,Fr.get,jm])
 intro a ha;refine wZ mixed ?_;by_cases hal:a<A
 case neg=>
  have hd2:¬ ((a:Int)<(A:Int)):=by omega
  obtain rfl:a=A:=by omega
  have ht0:WW rs a g (i,t) q=jm rs g a (i,t) q:=rfl;have g1:=wP (T:=T) (φ:=φ) hp.1;have g2:=vB (i:=q.1) (φ:=φ) hp.2;refine yF hd2 ?_;refine .yY ?_
  cases hk:jm rs g a (i,t) q with
  | false=>
   refine yQ ?_;refine⟨(w+1,nx1+1,?zo0),⟨by show w+1<=l.length; omega,by show nx<nx1+1; omega,λk hk=>?_,?_,?_⟩,?zt0,by show l.length-(w+1)<l.length-w; omega⟩
   case zt0=>
    (refine yV.same ?_; simp only [zL,Fr.get,simprocAttr,-ZA,zS])
    exact yB (by omega)
   ·simp only; rw [xX,if_neg (by omega)]; exact hold k hk
   ·simp only; rw [xX,if_neg (by omega)]; exact hbox
   ·simp only; rw [htk,ζ,hall,η,ht0,hk,θ]; rfl
  | true=>
   cases hx:φ q with
   | false=>
    simp only [simprocAttr,-ZA,↓zU,↓zD,zV,zT,zW,z3,e3,yP,g1,g2,wU,δ,γ,hx]
    (repeat refine sd ?_)
    refine .gone hu (hkeep _ _ λk hk=>?_) ?_
    ·rw [xX,if_neg (by omega)]; exact hold k hk
    ·simp only [vw];congr 1
     symm
     rw [<- Bool.not_eq_true,List.all_eq_true];intro h;have:=h q hpm;rw [ht0,hk,hx] at this;cases this
   | true=>
    simp only [simprocAttr,-ZA,↓zU,↓zD,zV,zT,zW,z3,e3,yP,g1,g2,wU,δ,γ,hx]
    (repeat refine sd ?_)
    refine⟨(w+1,nx1+1,?zo1),⟨by show w+1<=l.length; omega,by show nx<nx1+1; omega,λk hk=>?_,?_,?_⟩,?zt1,by show l.length-(w+1)<l.length-w; omega⟩
    case zt1=>
     (refine yV.same ?_; simp only [zL,Fr.get,simprocAttr,-ZA,zS])
     exact yB (by omega)
    ·simp only; rw [xX,if_neg (by omega)]; exact hold k hk
    ·simp only; rw [xX,if_neg (by omega)]; exact hbox
    ·simp only; rw [htk,ζ,hall,η,ht0,hk,θ]; rw [hx]; rfl
 have hd2:((a:Int)<(A:Int)):=by omega
 have hbit:=Ye (g:=g) (a:=a) hg (by omega);have hsu:=u7 rs g a (i,t) q
 cases hb:g.testBit a with
 | false=>
  rw [hb] at hbit hsu;simp only [Aa,if_false] at hbit;simp only [Bool.not_false,π,ω] at hsu;refine RT hd2 e2 z2 hbit ?_;refine⟨a+1,by omega,?_,by omega⟩
  (refine yV.same ?_; simp only [zL,Fr.get,simprocAttr,-ZA,zS,hsu])
  exact yB (by omega)
 | true=>
  rw [hb] at hbit hsu;simp only [if_true] at hbit;simp only [Bool.not_true,ο] at hsu;obtain⟨r,x,hr⟩:=RH ok hal (p:=(i,t)) ⟨hi,ht⟩;obtain⟨r',x',hr'⟩:=RH ok hal hp;have u1:=hr.g1; have u2:=hr.l1; have u3:=hr.g2; have u4:=hr.l2; have u5:=hr.g3;have v1:=hr'.g1; have v2:=hr'.l1; have v3:=hr'.g2; have v4:=hr'.l2; have v5:=hr'.g3;simp only at u1 u3
  by_cases he:uB rs a (i,t)= uB rs a q
  ·have hen:(uB rs a (i,t) != uB rs a q)= false:=by simpa using he
   simp only [simprocAttr,-ZA,↓zU,↓zD,zV,zT,zW,hd2,e1,e2,ec,z1,z2,zc,zb,hbox,hbit,zB,u1,u2,u3,u4,u5,v1,v2,v3,v4,v5,xC.row,pB,oM,hen]
   (repeat refine sd ?_)
   refine⟨a+1,by omega,?_,by omega⟩
   (refine yV.same ?_; simp only [zL,Fr.get,simprocAttr,-ZA,zS,hsu,he])
   exact⟨yB (by omega),by simp⟩
  ·have hen:(uB rs a (i,t) != uB rs a q)= true:=by simpa using he
   simp only [simprocAttr,-ZA,↓zU,↓zD,zV,zT,zW,hd2,e1,e2,ec,z1,z2,zc,zb,hbox,hbit,zB,u1,u2,u3,u4,u5,v1,v2,v3,v4,v5,xC.row,pB,oM,hen]
   (repeat refine sd ?_)
   refine⟨a+1,by omega,?_,by omega⟩
   (refine yV.same ?_; simp only [zL,Fr.get,simprocAttr,-ZA,zS,hsu,he])
   exact⟨yB (by omega),by simp⟩
end
section
open Rs Fm Ru Te
theorem SC {nx kc:Nat} {xY:List (Nat × Ob)} {rs:List xC} {A F T g:Nat} {same:D} {φ:Nat × Nat->Bool} (ok:iE rs A F T) (hg:g<2 ^ 60)
  (hc:St.look xY kc=some ⟨6,[[.int .i64 (A:Int),.int .i64 (F:Int),.int .i64 (T:Int),.sl 2 (uR rs),.sl 2 (pZ (mZ T (rs.length*T))),same]]⟩) :
  xW prog 87 [.ref kc 6 0 0,.int .i64 (g:Int),.sl 1 (xD rs.length T φ)] ⟨nx,xY⟩ (.sl 1 (xD rs.length T (yz rs A T g φ))) ⟨nx,xY⟩:=by
 refine xW.wV ⟨_,func87,by kernel_rfl,by kernel_rfl⟩ λhu=>xW.clean ?_;have hkc:=(hu kc _ hc).1;simp only at hkc
 have hkeep:∀ (a b c:Ob) k o,St.look xY k=some o->St.look ((nx+1+1,a) :: (nx+1,b) :: (nx,c) :: xY) k=some o:=λa b c k o hk=>by have:=(hu k o hk).1;simp only at this;rw [xX,if_neg (by omega),xX,if_neg (by omega),xX,if_neg (by omega)]; exact hk
 have hfill:=nY (nx:=nx+1+1+1) (kc:=kc) (xY:=(nx+1+1,⟨1,[[.sl 1 (xD rs.length T φ)]]⟩) :: (nx+1,⟨1,[[.int .i64 (g:Int)]]⟩) :: (nx,⟨1,[[.ref kc 6 0 0]]⟩) :: xY) (g:=124) (caps:=[.ref nx 1 0 0,.ref (nx+1) 1 0 0,.ref (nx+1+1) 1 0 0]) (φ:=yz rs A T g φ) ok (hkeep _ _ _ _ _ hc) (λnx1 objs1 i t h1 h2 hi ht=> UN ok hg (by rw [h2 _ (by omega),xX,if_neg (by omega),xX,if_neg (by omega),xX,if_pos rfl]) (by rw [h2 _ (by omega),xX,if_neg (by omega),xX,if_pos rfl]) (by rw [h2 _ (by omega),xX,if_pos rfl]) (by rw [h2 _ (by omega)]; exact hkeep _ _ _ _ _ hc) hi ht)
 refine zJ func87 Mw λhf=>?_;have y1:¬ nx+1=nx:=by omega
 have y2:¬ nx+1+1=nx:=by omega
 refine zg y1 y2 ?_;refine .go hfill ?_;refine yQ ?_;exact .gone hu (hkeep _ _ _) (by simp only [vw]; exact⟨trivial,trivial⟩)
theorem Xs {nx k1 k2 k3:Nat} {xY:List (Nat × Ob)} {R T:Nat} {x y z:Nat × Nat->Bool} (hR:R<=1000) (hT:T<=1000)
  (h1:St.look xY k1=some ⟨1,[[.sl 1 (xD R T x)]]⟩) (h2:St.look xY k2=some ⟨1,[[.sl 1 (xD R T y)]]⟩) (h3:St.look xY k3=some ⟨1,[[.sl 1 (xD R T z)]]⟩) {i t:Nat} (hi:i<R) (ht:t<T) :
  xW prog 126 ([.agg [.int .i64 (i:Int),.int .i64 (t:Int)]] ++ [.ref k1 1 0 0,.ref k2 1 0 0,.ref k3 1 0 0]) ⟨nx,xY⟩ (.bool (!x (i,t) || (y (i,t)&& z (i,t)))) ⟨nx,xY⟩:=by
 refine xW.wV ⟨_,func126,by kernel_rfl,by kernel_rfl⟩ λhu=>xW.clean ?_;have y1:¬ nx=k1:=by have:=(hu k1 _ h1).1; simp only at this; omega
 have y2:¬ nx=k2:=by have:=(hu k2 _ h2).1; simp only at this; omega
 have y3:¬ nx=k3:=by have:=(hu k3 _ h3).1; simp only at this; omega
 have hkeep:∀ (ob:Ob) k o,St.look xY k=some o->St.get ⟨nx+1,(nx,ob) :: xY⟩ k=some o:=λob k o hk=>by have:=(hu k o hk).1;simp only at this;show St.look (_ :: _) k=_;rw [xX,if_neg (by omega)]; exact hk
 have a1:=wP (T:=T) (φ:=x) hi;have a2:=vB (i:=i) (φ:=x) ht;have b1:=wP (T:=T) (φ:=y) hi;have b2:=vB (i:=i) (φ:=y) ht;have c1:=wP (T:=T) (φ:=z) hi;have c2:=vB (i:=i) (φ:=z) ht;refine zJ func126 RE λhf=>?_
 cases hx:x (i,t) with
 | false=>
  rw [hx] at a2;simp only [simprocAttr,-ZA,↓zU,↓zD,zV,zT,zW,h1,y1,yP,a1,a2,wU,δ,γ]
  (repeat refine sd ?_)
  exact .gone hu (hkeep _) (by simp only [vw]; rfl)
 | true=>
  rw [hx] at a2
  cases hy:y (i,t) with
  | false=>
   rw [hy] at b2;simp only [simprocAttr,-ZA,↓zU,↓zD,zV,zT,zW,h1,h2,y1,y2,yP,a1,a2,b1,b2,wU,δ,γ]
   (repeat refine sd ?_)
   exact .gone hu (hkeep _) (by simp only [vw]; rfl)
  | true=>
   rw [hy] at b2;simp only [simprocAttr,-ZA,↓zU,↓zD,zV,zT,zW,h1,h2,h3,y1,y2,y3,yP,a1,a2,b1,b2,c1,c2,wU,δ,γ]
   (repeat refine sd ?_)
   exact .gone hu (hkeep _) (by simp only [vw]; rfl)
structure Te.XK (nx R T : Nat) (xY : List (Nat × Ob)) (x y z : rT) (nx' : Nat) (objs' : List (Nat × Ob)) : Prop where
 n1:nx+1+1<nx'
 uJ:∀ k,k<nx->St.look objs' k=St.look xY k
 k0:St.look objs' nx=some ⟨1,[[.sl 1 (xD R T x)]]⟩
 k1:St.look objs' (nx+1)= some ⟨1,[[.sl 1 (xD R T y)]]⟩
 k2:St.look objs' (nx+1+1)= some ⟨1,[[.sl 1 (xD R T z)]]⟩
theorem Te.XK.more {nx R T nx' nx'':Nat} {xY objs' objs'':List (Nat × Ob)} {x y z:rT} (h:XK nx R T xY x y z nx' objs') (hn:nx'<=nx'') (hl:∀ k,k<nx'->St.look objs'' k=St.look objs' k):XK nx R T xY x y z nx'' objs'':=by have n1:=h.n1;exact⟨by omega,λk hk=>by rw [hl k (by omega)]; exact h.uJ k hk,by rw [hl _ (by omega)]; exact h.k0,by rw [hl _ (by omega)]; exact h.k1,by rw [hl _ (by omega)]; exact h.k2⟩
theorem Wn {nx kc ks:Nat} {km:Nat->Nat} {xY:List (Nat × Ob)} {rs:List xC} {A F T g:Nat} {x y:Nat × Nat->Bool} (ok:iE rs A F T) (hS:tF rs A F T kc ks km xY) (hg:g<2 ^ 60) :
  xW prog 89 [.ref kc 6 0 0,.int .i64 (g:Int),.sl 1 (xD rs.length T x),.sl 1 (xD rs.length T y)] ⟨nx,xY⟩ (.sl 1 (xD rs.length T (lD rs A T g x y))) ⟨nx,xY⟩:=by
 obtain⟨T1,T16⟩:=ok.hT;obtain⟨R1,R64⟩:=ok.hR;have hRT:=ok.hP;refine xW.wV ⟨_,func89,by kernel_rfl,by kernel_rfl⟩ λhu=>xW.clean ?_;have bc:kc<nx:=(hu _ _ hS.c).1
 have hk1:∀ {objs':List (Nat × Ob)},(∀ k,k<nx->St.look objs' k=St.look xY k)->tF rs A F T kc ks km objs':=λh=>hS.mono λk o hk=>by have:=(hu k o hk).1;simp only at this;rw [h k this]; exact hk
 have h0:∀ k,k<nx->St.look ((nx+1,⟨1,[[D.sl 1 (xD rs.length T y)]]⟩) :: (nx,⟨1,[[.sl 1 (xD rs.length T x)]]⟩) :: xY) k=St.look xY k:=λk hk=>by rw [xX,if_neg (by omega),xX,if_neg (by omega)]
 have hfill:=nY (nx:=nx+1+1) (kc:=kc) (φ:=λ_=>true) (g:=125) (caps:=[]) ok (hk1 h0).c λnx1 objs1 i t _ _ _ _=>V5;refine zJ func89 My λhf=>?_;refine nA ?_;refine .go hfill ?_;refine nA ?_;have w1:¬ nx+1+1=nx:=by omega
 have w2:¬ nx+1+1=nx+1:=by omega
 refine zC (λ_:Nat × Nat × List (Nat × Ob)=>[(9,.ref (nx+1+1) 1 0 0),(7,.ref (nx+1) 1 0 0),(6,.ref nx 1 0 0),(1,.int .i64 g),(0,.ref kc 6 0 0)]) (λa=>⟨a.2.1,a.2.2⟩)
  (λa=>a.1+tw rs A T g x y a.1<=rs.length*T/\XK nx rs.length T xY x y (vJ rs A T g x y a.1) a.2.1 a.2.2) (λa=>tw rs A T g x y a.1)
  (0,nx+1+1+1,(nx+1+1,⟨1,[[.sl 1 (xD rs.length T λ_=>true)]]⟩) :: (nx+1,⟨1,[[.sl 1 (xD rs.length T y)]]⟩) :: (nx,⟨1,[[.sl 1 (xD rs.length T x)]]⟩) :: xY) ⟨by rw [Xr]; omega,⟨Ac _,λk hk=>?_,?_,?_,?_⟩⟩ ?_ ?_
 ·simp only; rw [xX,if_neg (by omega),xX,if_neg (by omega),xX,if_neg (by omega)]
 ·simp only; rw [xX,if_neg (by omega),xX,if_neg (by omega),xX,if_pos rfl]
 ·simp only; rw [xX,if_neg (by omega),xX,if_pos rfl]
 ·simp only; rw [xX,if_pos rfl]; rfl
 ·exact sV
 rintro ⟨n,nx1,objs1⟩ ⟨hn,hI⟩;simp only at hn hI ⊢;have n1:=hI.n1;have hS1:=hk1 hI.uJ
 have hf2:=nY (nx:=nx1) (xY:=objs1) (kc:=kc) (φ:=λp=>!x p || (y p&&vJ rs A T g x y n p)) (g:=126) (caps:=[.ref nx 1 0 0,.ref (nx+1) 1 0 0,.ref (nx+1+1) 1 0 0]) ok hS1.c (λnx2 objs2 i t h1 h2 hi ht=> Xs (by omega) (by omega) (by rw [h2 _ (by omega)]; exact hI.k0) (by rw [h2 _ (by omega)]; exact hI.k1) (by rw [h2 _ (by omega)]; exact hI.k2) hi ht)
 have he:=bl (nx:=nx1) (φ:=λp=>!x p || (y p&&vJ rs A T g x y n p)) ok hS1 hg;rw [show sE rs A T g (λp=>!x p || (y p&&vJ rs A T g x y n p))= vJ rs A T g x y (n+1) from rfl] at he;have hc1:=hS1.c;have hin:Ri rs T (uC rs T):=gU T1 (Ae _);have hln:(uC rs T).length=rs.length*T:=pP T (rs.length*T);have hst:(∀ p ∈ uC rs T,vJ rs A T g x y (n+1) p=vJ rs A T g x y n p)->xD rs.length T (vJ rs A T g x y n)= xD rs.length T (lD rs A T g x y):=λh=>jW λi t hi ht=>fe (by omega) h (vo T1 hi ht);have hls:(∃ p ∈ uC rs T,vJ rs A T g x y (n+1) p≠vJ rs A T g x y n p)->tw rs A T g x y (n+1)<tw rs A T g x y n:=Xq;rw [show mZ T (rs.length*T)= uC rs T from rfl] at hc1;generalize uC rs T=l at hc1 hin hln hst hls;refine wZ mixed ?_;refine yQ ?_;refine .go hf2 ?_;refine yQ ?_;refine .go he ?_;refine zg hc1 wJ ?_
 refine uI (λb:Nat × Nat × List (Nat × Ob)=>[(29,.int .i64 b.1),(28,.int .i64 l.length),(27,.sl 2 (pZ l)),(12,.bool ((l.take b.1).any λp=>vJ rs A T g x y (n+1) p != vJ rs A T g x y n p)),(11,.sl 1 (xD rs.length T (vJ rs A T g x y (n+1)))),(9,.ref (nx+1+1) 1 0 0),(7,.ref (nx+1) 1 0 0),(6,.ref nx 1 0 0),(1,.int .i64 g),(0,.ref kc 6 0 0)]) (λa=>⟨a.2.1,a.2.2⟩)
  (λb=>b.1<=l.length/\XK nx rs.length T xY x y (vJ rs A T g x y n) b.2.1 b.2.2) (λb=>l.length-b.1) (0,nx1,objs1) ⟨Ab _,hI⟩ ?_ ?_
 ·exact sV
 clear hI hS1 hf2 he hc1 n1;rintro ⟨w,nx2,objs2⟩ ⟨hw,hI⟩;simp only at hw hI ⊢;have n1:=hI.n1;have e2:=hI.k2;refine wZ mixed ?_;by_cases hwl:w<l.length
 case neg=>
  have hd:¬ ((w:Int)<(l.length:Int)):=by omega
  rw [ε (show l.length<=w by omega)];refine yF hd ?_;refine .yY ?_
  cases hch:l.any λp=>vJ rs A T g x y (n+1) p != vJ rs A T g x y n p with
  | false=>
   refine yF e2 ?_
   have hst':=hst λp hp=>by have:=List.any_eq_false.1 hch p hp;simpa using this
   rw [hst'];refine .gone hu (λk o hk=>?_) (by simp only [vw]; exact⟨trivial,trivial⟩);have:=(hu k o hk).1;simp only at this;show St.look objs2 k=_;rw [hI.uJ k this]; exact hk
  | true=>
   refine qV e2 ?_
   have hls':=hls (by obtain⟨p,hp,hne⟩:=List.any_eq_true.1 hch;exact⟨p,hp,by simpa using hne⟩)
   refine⟨(n+1,nx2,?zo0),⟨by simp only; omega,⟨n1,λk hk=>?_,?_,?_,?_⟩⟩,?zt0,hls'⟩
   case zt0=>(refine yV.same ?_; simp [zL,Fr.get])
   all_goals simp only
   ·rw [xT,if_neg (by omega)]; exact hI.uJ k hk
   ·rw [xT,if_neg (by omega)]; exact hI.k0
   ·rw [xT,if_neg (by omega)]; exact hI.k1
   ·rw [xT,if_pos rfl,e2]; rfl
 have hd:((w:Int)<(l.length:Int)):=by omega
 have hp:=hin _ (zH (d:=(0,0)) hwl);have hpg:=lN l hwl
 have htk:l.take (w+1)= l.take w ++ [l.getD w (0,0)]:=by rw [ν];congr 1;simp [List.getD,hwl]
 generalize l.getD w (0,0)= p at hp hpg htk
 have hany:((l.take (w+1)).any λp=>vJ rs A T g x y (n+1) p != vJ rs A T g x y n p)= (((l.take w).any λp=>vJ rs A T g x y (n+1) p != vJ rs A T g x y n p) || (vJ rs A T g x y (n+1) p != vJ rs A T g x y n p)):=by rw [htk,List.any_append,List.any_cons,List.any_nil,Bool.or_false]
 generalize ((l.take w).any λp=>vJ rs A T g x y (n+1) p != vJ rs A T g x y n p)= c at hany;have a1:=wP (T:=T) (φ:=vJ rs A T g x y (n+1)) hp.1;have a2:=vB (i:=p.1) (φ:=vJ rs A T g x y (n+1)) hp.2;have b1:=wP (T:=T) (φ:=vJ rs A T g x y n) hp.1;have b2:=vB (i:=p.1) (φ:=vJ rs A T g x y n) hp.2;have z2:¬ nx2=nx+1+1:=by omega
 cases c with
 | true=>
  refine ai hd wJ hpg ?_;refine⟨(w+1,nx2+1,?zo1),⟨by show w+1<=l.length; omega,hI.more (Ad _) λk hk=>?_⟩,?zt1,by show l.length-(w+1)<l.length-w; omega⟩
  case zt1=>
   (refine yV.same ?_; simp only [zL,Fr.get,simprocAttr,-ZA,zS,hany,π,ο])
   exact yB (by omega)
  ·simp only; rw [xX,if_neg (by omega)]
 | false=>
  simp only [simprocAttr,-ZA,↓zU,↓zD,zV,zT,zW,hd,wJ,hpg,e2,z2,yP,a1,a2,b1,b2,wU,δ,γ]
  (repeat refine sd ?_)
  refine⟨(w+1,nx2+1,?zo2),⟨by show w+1<=l.length; omega,hI.more (Ad _) λk hk=>?_⟩,?zt2,by show l.length-(w+1)<l.length-w; omega⟩
  case zt2=>
   (refine yV.same ?_; simp only [zL,Fr.get,simprocAttr,-ZA,zS,hany,π,ο])
   exact yB (by omega)
  ·simp only; rw [xX,if_neg (by omega)]
end
section
open Rs Fm Ru Te
namespace Te
def XU (T:Nat) (s:Int) (t:Nat):Nat:=if 0<s then T-1-t else t
theorem Yf {T:Nat} {s:Int} {k:Nat} (h:k<T):ea T s k<T/\XU T s (ea T s k)= k:=by unfold XU ea;split <;> omega
theorem UY {T:Nat} {s:Int} {t k:Nat} (h:t<T) (hk:k<T) (e:XU T s t=k):t=ea T s k:=by
 unfold XU at e;unfold ea
 by_cases h0:0<s
 ·rw [if_pos h0] at e ⊢; omega
 ·rw [if_neg h0] at e ⊢; omega
theorem V7 {T:Nat} {s:Int} {x y:rT} {i t:Nat} (h:t<T):aA T s x y (i,t)= eH T s x y i (XU T s t+1):=by
 unfold aA XU
 by_cases h0:0<s
 ·simp only [if_pos h0];rw [show T-1-t+1=T-t by omega]
 ·simp only [if_neg h0]
def oC (T:Nat) (s:Int) (x y:rT) (r k i t:Nat):Bool:=decide (i<r\/(i=r/\XU T s t<k))&& aA T s x y (i,t)
theorem w8 {T:Nat} {s:Int} {x y:rT} {r k i t:Nat} (ht:t<T) (hk:k<T) (h:i≠r\/t≠ea T s k):oC T s x y r k i t=oC T s x y r (k+1) i t:=by
 unfold oC;congr 1;rw [ξ,decide_eq_true_iff,decide_eq_true_iff]
 constructor
 ·rintro (a | ⟨a,b⟩)
  ·exact .inl a
  ·exact .inr ⟨a,by omega⟩
 ·rintro (a | ⟨a,b⟩)
  ·exact .inl a
  ·refine .inr ⟨a,?_⟩
   rcases Nat.lt_or_ge (XU T s t) k with h1 | h1
   ·exact h1
   ·have:=UY ht hk (show XU T s t=k by omega)
    rcases h with h | h
    ·exact absurd a h
    ·exact absurd this h
theorem YI {T:Nat} {s:Int} {x y:rT} {r k:Nat} (hk:k<T):oC T s x y r (k+1) r (ea T s k)= eH T s x y r (k+1):=by obtain⟨h1,h2⟩:=Yf (s:=s) hk;unfold oC;rw [V7 h1,h2,decide_eq_true (.inr ⟨rfl,Ac k⟩)];rfl
theorem YJ {T:Nat} {s:Int} {x y:rT} {r i t:Nat} (ht:t<T):oC T s x y r T i t=oC T s x y (r+1) 0 i t:=by
 unfold oC;congr 1;rw [ξ,decide_eq_true_iff,decide_eq_true_iff];have:XU T s t<T:=by unfold XU; split <;> omega
 constructor
 ·rintro (a | ⟨a,b⟩)
  ·exact .inl (by omega)
  ·exact .inl (by omega)
 ·rintro (a | ⟨a,b⟩)
  ·rcases Nat.lt_or_ge i r with h | h
   ·exact .inl h
   ·exact .inr ⟨by omega,this⟩
  ·omega
theorem w9 {T:Nat} {s:Int} {x y:rT} {i t:Nat}:oC T s x y 0 0 i t=false:=by unfold oC;rw [decide_eq_false (by omega)]; rfl
theorem YH {T:Nat} {s:Int} {x y:rT} {R i t:Nat} (h:i<R):oC T s x y R 0 i t=aA T s x y (i,t):=by unfold oC;rw [decide_eq_true (.inl h)]; rfl
end Te
theorem cm {nx kc:Nat} {xY:List (Nat × Ob)} {rs:List xC} {A F T:Nat} {same:D} {x y:Nat × Nat->Bool} {s:Int} (ok:iE rs A F T)
  (hc:St.look xY kc=some ⟨6,[[.int .i64 (A:Int),.int .i64 (F:Int),.int .i64 (T:Int),.sl 2 (uR rs),.sl 2 (pZ (mZ T (rs.length*T))),same]]⟩) :
  xW prog 94 [.ref kc 6 0 0,.sl 1 (xD rs.length T x),.sl 1 (xD rs.length T y),.int .i64 s] ⟨nx,xY⟩ (.sl 1 (xD rs.length T (aA T s x y))) ⟨nx,xY⟩:=by
 obtain⟨T1,T16⟩:=ok.hT;obtain⟨R1,R64⟩:=ok.hR;refine xW.wV ⟨_,func94,by kernel_rfl,by kernel_rfl⟩ λhu=>xW.clean ?_;have bc:kc<nx:=(hu _ _ hc).1;have hfill:=vm (nx:=nx) (xY:=xY) (φ:=λ_=>false) (g:=128) (caps:=[]) ok hc λnx1 objs1 i t _ _ _ _=>Wz;have hT0:=TI.start (nx:=nx) (R:=rs.length) (T:=T) (φ:=λ_=>false) (xY:=xY);refine zJ func94 N3 λhf=>?_;refine nA ?_;refine .go hfill ?_;refine nA ?_
 refine uI (λb:Nat × List (Nat × Ob)=>[(18,.int .i64 b.1),(17,.int .i64 rs.length),(9,.xP nx 1 rs.length),(3,.int .i64 s),(2,.sl 1 (xD rs.length T y)),(1,.sl 1 (xD rs.length T x)),(0,.ref kc 6 0 0)]) (λb=>⟨nx+1+rs.length,b.2⟩)
  (λb=>b.1<=rs.length/\TI rs.length T nx rs.length (λi=>nx+1+i) (oC T s x y b.1 0) (nx+1+rs.length) xY b.2) (λb=>rs.length-b.1) (0,kH nx rs.length T (λ_=>false)++ xY) ⟨Ab _,hT0.congr λi t _ _=>w9.symm⟩ ?_ ?_
 ·exact sV
 clear hT0 hfill;rintro ⟨r,objs1⟩ ⟨hr,hT⟩;simp only at hr hT ⊢;have n1:=hT.n1;have hc1:=(hT.uJ kc bc).trans hc;refine wZ mixed ?_;by_cases hrl:r<rs.length
 case neg=>
  have hd:¬ ((r:Int)<(rs.length:Int)):=by omega
  obtain rfl:r=rs.length:=by omega
  refine yF hd ?_;refine .go _ _ (yv (s:=9) (φ:=aA T s x y) hu rfl hT (λi t hi _=>YH hi) rfl) ?_;refine yQ ?_;exact ca hu
 have hd:((r:Int)<(rs.length:Int)):=by omega
 refine zg hd hc1 ?_
 refine uI (λb:Nat × List (Nat × Ob)=>[(26,.int .i64 b.1),(25,.int .i64 T),(11,.bool (eH T s x y r b.1)),(10,.int .i64 r),(18,.int .i64 r),(17,.int .i64 rs.length),(9,.xP nx 1 rs.length),(3,.int .i64 s),(2,.sl 1 (xD rs.length T y)),(1,.sl 1 (xD rs.length T x)),(0,.ref kc 6 0 0)]) (λb=>⟨nx+1+rs.length,b.2⟩)
  (λb=>b.1<=T/\TI rs.length T nx rs.length (λi=>nx+1+i) (oC T s x y r b.1) (nx+1+rs.length) xY b.2) (λb=>T-b.1) (0,objs1) ⟨Ab _,hT⟩ ?_ ?_
 ·(refine yV.same ?_; simp [zL,Fr.get,eH])
 clear hT hc1;rintro ⟨k,objs2⟩ ⟨hk,hT⟩;simp only at hk hT ⊢;have hc1:=(hT.uJ kc bc).trans hc;refine wZ mixed ?_;by_cases hkl:k<T
 case neg=>
  have hd2:¬ ((k:Int)<(T:Int)):=by omega
  obtain rfl:k=T:=by omega
  refine yF hd2 ?_;refine .yY ?_;refine yQ ?_;refine⟨(r+1,objs2),⟨by show r+1<=rs.length; omega,hT.congr λi t _ ht=>YJ ht⟩,?_,by show rs.length-(r+1)<rs.length-r; omega⟩;exact zf
 have hd2:((k:Int)<(T:Int)):=by omega
 obtain⟨hp2,hid⟩:=Yf (s:=s) hkl;have hstep:=λi t=>w8 (T:=T) (s:=s) (x:=x) (y:=y) (r:=r) (k:=k) (i:=i) (t:=t);have hnew:=YI (s:=s) (x:=x) (y:=y) (r:=r) hkl;have hrun:eH T s x y r (k+1)= (y (r,ea T s k) || (x (r,ea T s k)&& eH T s x y r k)):=rfl;rw [hrun] at hnew;obtain⟨a1,a2,a3⟩:=hT.lr r hrl;have lo:=hT.lo;have hrow:=gK (T:=T) (kr:=λi=>nx+1+i) hrl hrl;have hset:=cb (w:=r*T+ea T s k) (v:=oC T s x y r k r) (v':=oC T s x y r (k+1) r) hp2 (λj hj hne=>hstep r j hj hkl (.inr hne)) hnew rfl;have hte:ea T s k=if 0<s then T-1-k else k:=rfl;generalize ea T s k=t at hp2 hrun hset hte hstep;have f1:=wP (T:=T) (φ:=x) hrl;have f2:=vB (i:=r) (φ:=x) hp2;have g1:=wP (T:=T) (φ:=y) hrl;have g2:=vB (i:=r) (φ:=y) hp2;have f3:=bz (v:=oC T s x y r k r) hp2;generalize x (r,t)= bx at f2 hrun hset;generalize y (r,t)= by_ at g2 hrun hset;generalize eH T s x y r k=bk at hrun hset
 have hend:∀ (f:Fr),zL f [(26,.int .i64 ((k+1:Nat):Int)),(25,.int .i64 T),(11,.bool (eH T s x y r (k+1))),(10,.int .i64 r),(18,.int .i64 r),(17,.int .i64 rs.length),(9,.xP nx 1 rs.length),(3,.int .i64 s),(2,.sl 1 (xD rs.length T y)),(1,.sl 1 (xD rs.length T x)),(0,.ref kc 6 0 0)]->∃ a':Nat × List (Nat × Ob),
   (a'.1<=T/\TI rs.length T nx rs.length (λi=>nx+1+i) (oC T s x y r a'.1) (nx+1+rs.length) xY a'.2)/\
   yV ⟨prog,69,nx,[],none⟩ f ⟨nx+1+rs.length,vK objs2 (nx+1+r) ⟨1,(oD ((List.range T).map (oC T s x y r k r))).set t [D.bool (by_ || (bx&&bk))]⟩⟩
    [(26,.int .i64 a'.1),(25,.int .i64 T),(11,.bool (eH T s x y r a'.1)),(10,.int .i64 r),(18,.int .i64 r),(17,.int .i64 rs.length),(9,.xP nx 1 rs.length),(3,.int .i64 s),(2,.sl 1 (xD rs.length T y)),(1,.sl 1 (xD rs.length T x)),(0,.ref kc 6 0 0)] ⟨nx+1+rs.length,a'.2⟩/\ T-a'.1<T-k:=by
  intro f hf
  refine⟨(k+1,_),⟨by show k+1<=T; omega,hT.Re (Ae _) hrl (λj u _ hu2 hne=>hstep j u hu2 hkl (.inl hne)) (λj hj hj2=>?_) ?_⟩,yV.same hf,by show T-(k+1)<T-k; omega⟩
  ·simp only; rw [xT,if_neg (λe=>hj2 e.symm)]
  ·simp only; rw [xT,if_pos rfl,a3,hset]; rfl
 by_cases h0:0<s
 ·rw [if_pos h0] at hte;have e1:IntKind.i64.wrap ((T:Int)-1)= (T:Int)-1:=wrap_i64 (by omega);have e2:IntKind.i64.wrap ((T:Int)-1-(k:Int))= (t:Int):=by rw [wrap_i64 (by omega)]; omega
  have e3:=yB (k:=k) (by omega);cases by_ <;> cases bx <;> (simp only [simprocAttr,-ZA,↓zU,↓zD,zV,zT,zW,hd2,h0,hc1,e1,e2,f3,yP,f1,f2,g1,g2,wU,δ,γ,lo,a3,hrow,rA]; (repeat refine sd ?_); refine hend _ ?_; simp only [zL,Fr.get,↓reduceIte,reduceIte,Nat.reduceEqDiff,reduceCtorEq,and_true,true_and,and_self,e3,hrun,π,ο,χ,υ])
 ·rw [if_neg h0] at hte;subst hte;have e3:=yB (k:=t) (by omega);cases by_ <;> cases bx <;> (simp only [simprocAttr,-ZA,↓zU,↓zD,zV,zT,zW,hd2,h0,hc1,f3,yP,f1,f2,g1,g2,wU,δ,γ,lo,a3,hrow,rA]; (repeat refine sd ?_); refine hend _ ?_; simp only [zL,Fr.get,↓reduceIte,reduceIte,Nat.reduceEqDiff,reduceCtorEq,and_true,true_and,and_self,e3,hrun,π,ο,χ,υ])
end
section
open Rs Fm Ru Te
namespace Te
theorem SG (s:BitVec 64) (k:Nat):((s >>> k)&&& 1#64==1#64)= s.getLsbD k:=by
 rw [ξ,beq_iff_eq]
 constructor
 ·intro h;have:=congrArg (λv=>v.getLsbD 0) h;simpa using this
 ·intro h;refine BitVec.eq_of_getLsbD_eq λi hi=>?_;simp only [BitVec.getLsbD_and,BitVec.getLsbD_ushiftRight,BitVec.getLsbD_one]
  by_cases h0:i=0
  ·subst h0; simp [h]
  ·simp [h0]
structure aa (d : D) : Prop where
 c:d.cells=some [d]
 o:d.one=true
theorem aa.sl (n:Nat) (e:List (List D)):aa (.sl n e):=⟨rfl,rfl⟩
theorem aa.xU : aa .xU:=⟨rfl,rfl⟩
structure jG (n : Nd) (R T : Nat) (x y : rT) (xd yd : D) : Prop where
 hx:(xS n.op).1.x=true->xd = .sl 1 (xD R T x)
 hy:(xS n.op).1.y=true->yd = .sl 1 (xD R T y)
end Te
theorem SA {nx k5 k4 k6 k7 kc:Nat} {xY:List (Nat × Ob)} {rs:List xC} {A F T:Nat} {l:List (Nat × Nat)} {same xd yd:D} {n:Nd} {x y:Nat × Nat->Bool} (ok:iE rs A F T) (ho:jG n rs.length T x y xd yd) (hi3:n.op=3->0<=n.i)
  (h5:St.look xY k5=some ⟨6,[n.row]⟩) (h4:St.look xY k4=some ⟨1,[[.ref kc 6 0 0]]⟩) (h6:St.look xY k6=some ⟨1,[[xd]]⟩) (h7:St.look xY k7=some ⟨1,[[yd]]⟩)
  (hc:St.look xY kc=some ⟨6,[[.int .i64 (A:Int),.int .i64 (F:Int),.int .i64 (T:Int),.sl 2 (uR rs),.sl 2 (pZ l),same]]⟩) {i t:Nat} (hi:i<rs.length) (ht:t<T) :
  xW prog 96 ([.agg [.int .i64 (i:Int),.int .i64 (t:Int)]] ++ [.ref k5 6 0 0,.ref k4 1 0 0,.ref k6 1 0 0,.ref k7 1 0 0]) ⟨nx,xY⟩ (.bool (fQ rs n x y (i,t))) ⟨nx,xY⟩:=by
 obtain⟨T1,T16⟩:=ok.hT;obtain⟨R1,R64⟩:=ok.hR;refine xW.wV ⟨_,func96,by kernel_rfl,by kernel_rfl⟩ λhu=>xW.clean ?_;have y5:¬ nx=k5:=by have:=(hu k5 _ h5).1; simp only at this; omega
 have y4:¬ nx=k4:=by have:=(hu k4 _ h4).1; simp only at this; omega
 have y6:¬ nx=k6:=by have:=(hu k6 _ h6).1; simp only at this; omega
 have y7:¬ nx=k7:=by have:=(hu k7 _ h7).1; simp only at this; omega
 have yc:¬ nx=kc:=by have:=(hu kc _ hc).1; simp only at this; omega
 have hend:∀ (ob:Ob) (d:Bool),d=fQ rs n x y (i,t)->eU nx ⟨nx+1,(nx,ob) :: xY⟩ (.bool d) ⟨nx,uj xY⟩ (.bool (fQ rs n x y (i,t))):=λob d hd=>.gone hu (λk o hk=>by have:=(hu k o hk).1;simp only at this;show St.look (_ :: _) k=_;rw [xX,if_neg (by omega)]; exact hk) (by simp only [vw,hd])
 obtain⟨hx,hy⟩:=ho
 have hbp:fQ rs n x y (i,t)= (if n.op=1 then true else if n.op=3 then(XM rs (i,t)).getLsbD n.i.toNat else if n.op=4 then !x (i,t) else if n.op=5 then x (i,t)&& y (i,t) else if n.op=6 then x (i,t) || y (i,t)
  else if n.op=7 then !x (i,t) || y (i,t) else if n.op=8 then x (i,t)== y (i,t) else false):=rfl
 rw [Nd.row] at h5;obtain⟨op,ni,ne,ng,nx_,ny⟩:=n;simp only at hx hy hi3 h5 hbp;have hm:=zH (d:=pV) hi;have hgr:=oN rs hi;have hf:=ok.aB _ hm;have hfa:(rs.getD i pV).aB.getD t 0=XM rs (i,t):=rfl;generalize rs.getD i pV=r at hgr hf hfa;have hg2:=Ym r.aB (show t<r.aB.length by omega);rw [hfa] at hg2;generalize XM rs (i,t)= fa at hg2 hbp;have f1:=wP (T:=T) (φ:=x) hi;have f2:=vB (i:=i) (φ:=x) ht;have g1:=wP (T:=T) (φ:=y) hi;have g2:=vB (i:=i) (φ:=y) ht;refine zJ func96 N5 λhf=>?_
 by_cases e1:op=1
 ·subst e1;refine mX h5 y5 ?_;exact hend _ _ (by rw [hbp]; rfl)
 have c1:(op==1)= false:=by simpa using e1
 rw [if_neg e1] at hbp
 by_cases e3:op=3
 ·subst e3;have hn:=hi3 rfl;simp only [simprocAttr,-ZA,↓zU,↓zD,zV,zT,zW,h5,h4,hc,y5,y4,yc,c1,zB,hgr,xC.row,gW,hg2,hn]
  (repeat refine sd ?_)
  exact hend _ _ (by rw [hbp,SG]; rfl)
 have c3:(op==3)= false:=by simpa using e3
 rw [if_neg e3] at hbp
 by_cases e4:op=4
 ·subst e4;rw [hx rfl] at h6;simp only [simprocAttr,-ZA,↓zU,↓zD,zV,zT,zW,h5,h6,y5,y6,c1,c3,yP,f1,f2,wU,δ,γ]
  (repeat refine sd ?_)
  exact hend _ _ (by rw [hbp]; rfl)
 have c4:(op==4)= false:=by simpa using e4
 rw [if_neg e4] at hbp
 by_cases e5:op=5
 ·subst e5;rw [hx rfl] at h6;rw [hy rfl] at h7;generalize x (i,t)= bx at f2 hbp;cases bx <;> (simp only [simprocAttr,-ZA,↓zU,↓zD,zV,zT,zW,h5,h6,h7,y5,y6,y7,c1,c3,c4,yP,f1,f2,g1,g2,wU,δ,γ]; (repeat refine sd ?_); refine hend _ _ ?_; rw [hbp]; rfl)
 have c5:(op==5)= false:=by simpa using e5
 rw [if_neg e5] at hbp
 by_cases e6:op=6
 ·subst e6;rw [hx rfl] at h6;rw [hy rfl] at h7;generalize x (i,t)= bx at f2 hbp;cases bx <;> (simp only [simprocAttr,-ZA,↓zU,↓zD,zV,zT,zW,h5,h6,h7,y5,y6,y7,c1,c3,c4,c5,yP,f1,f2,g1,g2,wU,δ,γ]; (repeat refine sd ?_); refine hend _ _ ?_; rw [hbp]; rfl)
 have c6:(op==6)= false:=by simpa using e6
 rw [if_neg e6] at hbp
 by_cases e7:op=7
 ·subst e7;rw [hx rfl] at h6;rw [hy rfl] at h7;generalize x (i,t)= bx at f2 hbp;cases bx <;> (simp only [simprocAttr,-ZA,↓zU,↓zD,zV,zT,zW,h5,h6,h7,y5,y6,y7,c1,c3,c4,c5,c6,yP,f1,f2,g1,g2,wU,δ,γ]; (repeat refine sd ?_); refine hend _ _ ?_; rw [hbp]; rfl)
 have c7:(op==7)= false:=by simpa using e7
 rw [if_neg e7] at hbp
 by_cases e8:op=8
 ·subst e8;rw [hx rfl] at h6;rw [hy rfl] at h7;generalize x (i,t)= bx at f2 hbp;cases bx <;> (simp only [simprocAttr,-ZA,↓zU,↓zD,zV,zT,zW,h5,h6,h7,y5,y6,y7,c1,c3,c4,c5,c6,c7,yP,f1,f2,g1,g2,wU,δ,γ]; (repeat refine sd ?_); refine hend _ _ ?_; rw [hbp]; rfl)
 have c8:(op==8)= false:=by simpa using e8
 rw [if_neg e8] at hbp;refine RS h5 y5 c1 c3 c4 c5 c6 c7 c8 ?_;exact hend _ _ (by rw [hbp])
theorem YX {nx kc:Nat} {xY:List (Nat × Ob)} {rs:List xC} {A F T:Nat} {same xd yd:D} {n:Nd} {x y:Nat × Nat->Bool} (ok:iE rs A F T) (ho:jG n rs.length T x y xd yd) (hi3:n.op=3->0<=n.i) (hxd:aa xd) (hyd:aa yd)
  (hc:St.look xY kc=some ⟨6,[[.int .i64 (A:Int),.int .i64 (F:Int),.int .i64 (T:Int),.sl 2 (uR rs),.sl 2 (pZ (mZ T (rs.length*T))),same]]⟩) :
  xW prog 42 [.ref kc 6 0 0,.agg n.row,xd,yd] ⟨nx,xY⟩ (.sl 1 (xD rs.length T (fQ rs n x y))) ⟨nx,xY⟩:=by
 refine xW.wV ⟨_,func42,by kernel_rfl,by kernel_rfl⟩ λhu=>xW.clean ?_;have hkc:=(hu kc _ hc).1;simp only at hkc
 have hkeep:∀ (a b c d:Ob) k o,St.look xY k=some o->St.look ((nx+1+1+1,a) :: (nx+1+1,b) :: (nx+1,c) :: (nx,d) :: xY) k=some o:=λa b c d k o hk=>by have:=(hu k o hk).1;simp only at this;rw [xX,if_neg (by omega),xX,if_neg (by omega),xX,if_neg (by omega),xX,if_neg (by omega)]; exact hk
 have hfill:=nY (nx:=nx+1+1+1+1) (kc:=kc) (xY:=(nx+1+1+1,⟨1,[[yd]]⟩) :: (nx+1+1,⟨1,[[xd]]⟩) :: (nx+1,⟨6,[n.row]⟩) :: (nx,⟨1,[[.ref kc 6 0 0]]⟩) :: xY) (g:=96) (caps:=[.ref (nx+1) 6 0 0,.ref nx 1 0 0,.ref (nx+1+1) 1 0 0,.ref (nx+1+1+1) 1 0 0]) (φ:=fQ rs n x y) ok (hkeep _ _ _ _ _ _ hc) (λnx1 objs1 i t h1 h2 hi ht=> SA ok ho hi3 (by rw [h2 _ (by omega),xX,if_neg (by omega),xX,if_neg (by omega),xX,if_pos rfl]) (by rw [h2 _ (by omega),xX,if_neg (by omega),xX,if_neg (by omega),xX,if_neg (by omega),xX,if_pos rfl]) (by rw [h2 _ (by omega),xX,if_neg (by omega),xX,if_pos rfl]) (by rw [h2 _ (by omega),xX,if_pos rfl]) (by rw [h2 _ (by omega)]; exact hkeep _ _ _ _ _ _ hc) hi ht)
 have y1:¬ nx+1=nx:=by omega
 have y2:¬ nx+1+1=nx:=by omega
 have y3:¬ nx+1+1+1=nx:=by omega
 rw [Nd.row] at hfill ⊢;refine zJ func42 MW λhf=>?_;obtain⟨p1,p2⟩:=hxd;obtain⟨q1,q2⟩:=hyd;refine RU y1 y2 y3 p1 p2 q1 q2 ?_;refine .go hfill ?_;refine yQ ?_;exact .gone hu (hkeep _ _ _ _) (by simp only [vw]; exact⟨trivial,trivial⟩)
end
end Go.Pd
