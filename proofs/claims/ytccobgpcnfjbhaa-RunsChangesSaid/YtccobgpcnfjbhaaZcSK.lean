/- Part SK. -/
import Derived.Test.YtccobgpcnfjbhaaZcSH
set_option linter.unusedSectionVars false
set_option linter.unusedVariables false
set_option linter.unusedSimpArgs false
set_option linter.defProp false
set_option maxRecDepth 20000
set_option maxHeartbeats 1000000
open Go.Proofs.Try
open Nat renaming not_lt_zero->γ,mul_comm->δ,zero_le->ε,le_refl->ζ
open List renaming length_map->η,map_congr_left->θ,any_eq_false->μ,cons_append->ν,any_eq_true->ξ
namespace Go.Pd
open Go Go.Proofs
open BitVec renaming isValue -> ZA
open Ru
theorem nH {rs:List xN} {A F T:Nat} (ok:lS rs A F T):uJ ⟨A,F,T,rs⟩= 0:=by
 obtain⟨h1,h2,h3,h4,h5,h6,h7,h8,h9⟩:=ok;unfold uJ;simp only;have hp:((rs.length*T:Nat):Int)<=512:=by omega
 rw [Int.natCast_mul] at hp
 rw [if_neg (by omega),if_neg (by omega),if_neg (by omega),if_neg,if_neg]
 ·rw [Bool.not_eq_true,μ];intro r hr;simp only [kF,Int.toNat_natCast,ξ,not_exists,not_and];intro f hf;simp [h9 r hr f hf]
 ·rw [Bool.not_eq_true,μ];intro r hr;have hrow:=h8 r hr;simp only [sT,h6 r hr,h7 r hr,decide_true,Bool.not_true,Bool.false_or,ξ,not_exists,not_and];intro l hl;simp [hrow l hl]
theorem mr (A:Nat):rows .i64 ((List.range A).map λ_=>(0:Int))= List.replicate A [.int .i64 0]:=by refine List.ext_getElem (by simp [rows]) λi h1 h2=>by simp [rows]
theorem eQ {rs:List xN} {A F T:Nat} (ok:lS rs A F T) {g:FuncId} {kf:Nat->Nat × Nat->List Int} (hkf:gg g A F T rs kf) :
  xS prog 53 [sD A F T rs,.fn g [.ref 0 4 0 0]] ⟨2,[(1,⟨4,[[.int .i64 0,.int .i64 0,.int .i64 0,.xZ]]⟩),(0,⟨4,[[.int .i64 (A:Int),.int .i64 (F:Int),.int .i64 (T:Int),.sl 2 (xK rs)]]⟩)]⟩
   (.yE [sD A F T (rU rs A T (yB kf (oE T (rs.length*T)))),.int .i64 0]) ⟨2,[(1,⟨4,[[.int .i64 0,.int .i64 0,.int .i64 0,.xZ]]⟩),(0,⟨4,[[.int .i64 (A:Int),.int .i64 (F:Int),.int .i64 (T:Int),.sl 2 (xK rs)]]⟩)]⟩:=by
 have hC:=nC ⟨A,F,T,rs⟩;have hP:=s7 ⟨A,F,T,rs⟩;obtain⟨T1,T16⟩:=ok.hT;obtain⟨R1,R64⟩:=ok.hR;have hz:=nH ok;rw [hz] at hC;have ep:kJ ⟨A,F,T,rs⟩= oE T (rs.length*T):=by unfold kJ; rw [if_neg (by simpa using hz)]; rfl
 rw [ep] at hP;have hD:wQ.d ⟨A,F,T,rs⟩= .agg [.int .i64 (A:Int),.int .i64 (F:Int),.int .i64 (T:Int),.sl 2 (xK rs)]:=rfl;rw [hD] at hC hP;have hA:=ok.hA;have hin:Tn rs T (oE T (rs.length*T)):=ft T1 (ζ _);have hln:=hE T (rs.length*T);have hlg:∀ w,w<rs.length*T->(oE T (rs.length*T)).getD w (0,0)= (w / T,w % T):=λw h=>pk T h;have hRT:=ok.hP;have hRT1:1<=rs.length*T:=Nat.mul_le_mul R1 T1;generalize oE T (rs.length*T)= l at hP hin hln hlg ⊢;unfold sD;refine zL func53 Tt λhf=>?_;refine uB ?_;refine .go (cq hC) ?_;refine vY xV ?_
 refine xO (λa:Nat × Nat × List (Nat × Ob)=>[(34,.int .i64 a.1),(33,.int .i64 rs.length),(32,.sl 2 (xK rs)),(7,.ref 4 4 0 0),(4,.ref 3 4 0 0),(2,.ref 2 4 0 0),(1,.fn g [.ref 0 4 0 0])]) (λa=>⟨a.2.1,a.2.2⟩)
  (λa=>a.1<=rs.length/\a.2.1<=5+60*a.1/\∃ kr kl ki,NI rs A F T a.2.1 a.1 kr kl ki (rY (yB kf l) A T 0 0) a.2.2) (λa=>rs.length-a.1) (0,5,[(4,⟨4,[[.int .i64 (A:Int),.int .i64 (F:Int),.int .i64 (T:Int),.xZ]]⟩),(3,⟨4,[[.int .i64 0,.int .i64 0,.int .i64 0,.xZ]]⟩),(2,⟨4,[[.int .i64 (A:Int),.int .i64 (F:Int),.int .i64 (T:Int),.sl 2 (xK rs)]]⟩),(1,⟨4,[[.int .i64 0,.int .i64 0,.int .i64 0,.xZ]]⟩),(0,⟨4,[[.int .i64 (A:Int),.int .i64 (F:Int),.int .i64 (T:Int),.sl 2 (xK rs)]]⟩)]) ⟨ε _,by simp,1000000,λ_=>0,λ_ _=>0,?_⟩ ?_ ?_
 ·exact⟨rfl,rfl,rfl,rfl,rfl,rfl,rfl,by simp,by simp,λi h=>absurd h (γ _),λi t h=>absurd h (γ _),λi j h=>absurd h (γ _),λi j t h=>absurd h (γ _),λi j t u h=>absurd h (γ _)⟩
 ·exact wI
 intro ⟨r,nb,xW⟩ ⟨hr,hnb,kr,kl,ki,hI⟩;simp only at hr hnb hI ⊢;refine xE mixed ?_;by_cases hrl:r<rs.length
 case neg=>
  have hd:¬ ((r:Int)<(rs.length:Int)):=by omega
  obtain rfl:rs.length=r:=by omega
  have hl2:=hI.l2;refine uA hd hl2 ?_;refine .go (cq hP) ?_;refine vY hl2 ?_
  refine rI (λa:Nat × Nat × List (Nat × Ob)=>[(66,.int .i64 a.1),(65,.int .i64 A),(11,.sl 2 (mT l)),(7,.ref 4 4 0 0),(4,.ref 3 4 0 0),(1,.fn g [.ref 0 4 0 0])]) (λa=>⟨a.2.1,a.2.2⟩)
   (λa=>a.1<=A/\nb<=a.2.1/\a.2.1<=5000+4000*a.1/\NI rs A F T nb rs.length kr kl ki (rY (yB kf l) A T a.1 0) a.2.2) (λa=>A-a.1) (0,nb,xW) ⟨ε _,ζ _,by simp only; omega,hI⟩ ?_ ?_
  ·exact wI
  clear hI hl2;intro ⟨a,nx,xW⟩ ⟨ha,hx1,hx2,hI⟩;simp only at ha hx1 hx2 hI ⊢;have k5:=hI.k5;refine xE mixed ?_;by_cases hal:a<A
  case neg=>
   have hd:¬ ((a:Int)<(A:Int)):=by omega
   obtain rfl:A=a:=by omega
   have hkr:kr<nb:=by
    rcases hI.hk.2 with e | e
    ·exact e
    ·have:=hI.lr;rw [e,hI.fr,yQ (by rw [uP]; omega)] at this;cases this
   have hk5:=hI.hk.1
   have hren:rU rs A T (yB kf l)= (List.range rs.length).map λi=>⟨(List.range T).map (rY (yB kf l) A T A 0 i),(rs.getD i yF).zM⟩:=by unfold rU;refine θ λi _=>?_;congr 1;exact θ λt _=>(du _ _ _ _ _).symm
   have hrl':(xK (rU rs A T (yB kf l))).length=rs.length:=by simp [xK,rU]
   generalize rU rs A T (yB kf l)= rs' at hren hrl' ⊢;refine vY hd ?_;refine .go _ _ ((YL hI rfl hx1 (by omega) (λi t _ _=>zw _ _ _ _ _ _ _) (by simp [Fr.get]) (by simp [Fr.get])).trans (YM (rs':=rs') hI rfl hx1 (by omega) (λi _=>by simp [rl]) hren)) ?_;unfold VO;have z1:¬ kr=3:=by omega
   have z2:¬ kr=4:=by omega
   refine uA z1 z2 ?_;have z3:¬ kr=1:=by omega
   have z4:¬ kr=0:=by omega
   (refine rT.uz [] [1,0] (by simp) (by simp) (by decide) ?_; simp only [vX,zQ,simprocAttr,-ZA,exists_eq_left',ne_eq,zR,z1,z2,z3,z4])
   refine⟨λp hp=>?_,⟨2,xK rs'⟩,by rw [if_neg (by omega)],rfl,by rw [hrl']; exact ζ _,(uH hrl'.symm).symm,rH rs'⟩
   rcases hp with rfl | rfl | h
   ·exact λe=>z3 e.symm
   ·exact λe=>z4 e.symm
   ·exact h.elim
  have hd:((a:Int)<(A:Int)):=by omega
  refine vY hd ?_
  refine xO (λb:Nat × Nat × List (Nat × Ob) × Nat=>[(71,.int .i64 b.1),(70,.int .i64 l.length),(69,.sl 2 (mT l)),(66,.int .i64 a),(65,.int .i64 A),(13,xI b.2.2.2 1 (rl ((l.map (kf a)).take b.1))),(12,.int .i64 a),(11,.sl 2 (mT l)),(7,.ref 4 4 0 0),(4,.ref 3 4 0 0),(1,.fn g [.ref 0 4 0 0])]) (λb=>⟨b.2.1,b.2.2.1⟩)
   (λb=>b.1<=l.length/\nx<=b.2.1/\b.2.1<=nx+4*b.1/\(∀ k,k<nx->St.look b.2.2.1 k=St.look xW k)/\ St.look b.2.2.1 1000000=none/\St.look b.2.2.1 b.2.2.2=zN 1 (rl ((l.map (kf a)).take b.1))/\ ((nx<=b.2.2.2/\b.2.2.2<b.2.1)\/b.2.2.2=1000000)) (λb=>l.length-b.1) (0,nx,xW,1000000)
   ⟨ε _,ζ _,by simp only; omega,λ_ _=>rfl,hI.fr,hI.fr,.inr rfl⟩ ?_ ?_
  ·(refine yO.same ?_; simp [wZ,Fr.get,uC,rl,xI])
  intro ⟨w,nx1,objs1,kk⟩ ⟨hw,w1,w2,w3,w4,w5,w6⟩;simp only at hw w1 w2 w3 w4 w5 w6 ⊢;refine xE mixed ?_
  by_cases hwl:w<l.length
  ·have hd2:((w:Int)<(l.length:Int)):=by omega
   have hp:=hin _ (yX (d:=(0,0)) hwl);have hpg:=hU l hwl
   have hS:(l.map (kf a)).take (w+1)= (l.map (kf a)).take w ++ [kf a (l.getD w (0,0))]:=by rw [yD (d:=[]) (by rw [η]; exact hwl)];congr 2;simp [List.getD,hwl]
   have htl:((l.map (kf a)).take w).length=w:=by rw [List.length_take,η]; omega
   generalize l.getD w (0,0)= p at hp hpg hS;obtain⟨p1,p2⟩:=p;simp only at hp hpg;have hk1:=hkf ⟨nx1+1,(nx1,⟨2,[[.int .i64 p1,.int .i64 p2]]⟩) :: objs1⟩ a (p1,p2) (by simp) (by rw [xU (by omega),w3 0 (by omega)]; exact hI.l0) hal hp;simp only [ν,List.nil_append] at hk1;generalize kf a (p1,p2)= key at hk1 hS;generalize (l.map (kf a)).take w=ks at hS htl w5;have y6:¬ nx1=kk:=by omega
   have y7:¬ nx1+1=kk:=by omega
   have y8:¬ nx1+1+1=kk:=by omega
   refine yz hd2 uC hpg ?_;refine .go hk1 ?_;refine ZZ w5 y6 y7 y8 xP htl ?_;refine⟨by omega,by omega,⟨(w+1,?znc,?zoc,nx1+1+1+1),?e1,?e2,by show l.length-(w+1)<l.length-w; omega⟩⟩
   case e2=>
    simp only [hS,<- qM]
    (refine yO.same ?_; simp only [wZ,Fr.get,simprocAttr,-ZA,zS])
    exact wrap_i64 (by omega)
   case e1=>
    have hpos:0<(rl ks ++ [[D.sl 1 (rows .i64 key)]]).length:=by simp
    refine⟨by show w+1<=l.length; omega,by show nx<=nx1+1+1+1+1; omega,by show nx1+1+1+1+1<=nx+4*(w+1); omega,λk hk=>?_,?_,?_,.inl ⟨by show nx<=nx1+1+1+1; omega,by show nx1+1+1+1<nx1+1+1+1+1; omega⟩⟩
    ·show St.look (xM _ _ _++_) _=_;rw [xQ,if_neg (by omega),xU (by omega),xU (by omega),xU (by omega),xH,if_neg (by omega),w3 k hk]
    ·show St.look (xM _ _ _++_) _=_;rw [xQ,if_neg (by omega),xU (by omega),xU (by omega),xU (by omega),xH]
     split
     ·rfl
     ·exact w4
    ·show St.look (xM _ _ _++_) (nx1+1+1+1)= zN 1 (rl (List.take (w+1) _));rw [hS,<- qM,xQ,if_pos rfl,yQ hpos]; rfl
  have hd2:¬ ((w:Int)<(l.length:Int)):=by omega
  have hmp:(l.map (kf a)).take w=l.map (kf a):=uH (by rw [η]; omega);rw [hmp] at w5 ⊢;have hnum:∀ p,yB kf l a p=below (dedup (tH (l.map (kf a)))) (kf a p):=λp=>rfl;have hLl:(l.map (kf a)).length=rs.length*T:=by rw [η,hln]
  generalize hLe:l.map (kf a)= L at w5 hnum hLl;have hgk:xI kk 1 (rl L)= .yW kk 1 L.length:=by rw [sY (by rw [xP]; omega),xP]
  rw [yQ (by rw [xP]; omega)] at w5
  have hkk:nx<=kk/\kk<nx1:=by
   rcases w6 with e | e
   ·exact e
   ·rw [e,w4] at w5; cases w5
  have hsl:(tH L).length=L.length:=(jJ L).length_eq;have hso:=tl (σ:=⟨nx1,objs1⟩) (key:=kk) (l:=L) w5 (by intro e; rw [e] at hLl; simp at hLl; omega) (by omega);have hco:=ju (σ:=⟨nx1,zJ objs1 kk ⟨1,rl (tH L)⟩⟩) (key:=kk) (l:=tH L) (uN w5) (by omega) (by intro e; rw [e] at hsl; simp at hsl; omega);rw [hsl] at hco;have hasc:=eW L;have hma:od (dedup (tH L)):=jy hasc
  have hml:(dedup (tH L)).length<=1000:=by have:=pa (tH L) (tH L).length;unfold dedup; omega
  have hlk2:St.look (zJ (zJ objs1 kk ⟨1,rl (tH L)⟩) kk ⟨1,p8 (tH L)⟩) kk=some ⟨1,rl (dedup (tH L))++ List.replicate ((tH L).length-(dedup (tH L)).length) [.xZ]⟩:=uN (uN w5)
  have hold2:∀ k,k<nx->St.look (zJ (zJ objs1 kk ⟨1,rl (tH L)⟩) kk ⟨1,p8 (tH L)⟩) k=St.look xW k:=λk hk=>by rw [xG,if_neg (by omega),xG,if_neg (by omega),w3 k hk]
  have hfr2:St.look (zJ (zJ objs1 kk ⟨1,rl (tH L)⟩) kk ⟨1,p8 (tH L)⟩) 1000000=none:=by rw [xG,if_neg (by omega),xG,if_neg (by omega),w4]
  refine uA hd2 hgk ?_;refine .go hso ?_;refine wU ?_;refine .go hco ?_;simp only [set_mk];generalize zJ (zJ objs1 kk ⟨1,rl (tH L)⟩) kk ⟨1,p8 (tH L)⟩= objs2 at hlk2 hold2 hfr2 ⊢;have hI2:=hI.frame (objs':=objs2) (λk hk=>hold2 k (by omega)) hfr2;generalize hMe:dedup (tH L)= M at hma hml hlk2 hnum ⊢;generalize List.replicate ((tH L).length-M.length) [D.xZ]=more at hlk2;refine vY uC ?_
  refine xO (λb:Nat × Nat × List (Nat × Ob)=>[(89,.int .i64 b.1),(88,.int .i64 l.length),(87,.sl 2 (mT l)),(66,.int .i64 a),(65,.int .i64 A),(13,.yW kk 1 M.length),(12,.int .i64 a),(11,.sl 2 (mT l)),(7,.ref 4 4 0 0),(4,.ref 3 4 0 0),(1,.fn g [.ref 0 4 0 0])]) (λb=>⟨b.2.1,b.2.2⟩)
   (λb=>b.1<=l.length/\nx1<=b.2.1/\b.2.1<=nx1+2*b.1/\NI rs A F T nb rs.length kr kl ki (rY (yB kf l) A T a b.1) b.2.2/\St.look b.2.2 kk=some ⟨1,rl M++more⟩) (λb=>l.length-b.1) (0,nx1,objs2)
   ⟨ε _,ζ _,by simp only; omega,hI2,hlk2⟩ ?_ ?_
  ·exact wI
  clear hI hI2 hlk2 hold2 hfr2;intro ⟨w,nx2,objs3⟩ ⟨hw,v1,v2,hI,hlk⟩;simp only at hw v1 v2 hI hlk ⊢;refine xE mixed ?_
  by_cases hwl:w<l.length
  ·have hd3:((w:Int)<(l.length:Int)):=by omega
   have hp:=hin _ (yX (d:=(0,0)) hwl);have hpg:=hU l hwl;have hpe:=hlg w (by omega);have hwe:(w / T)* T+w % T=w:=by rw [δ]; exact Nat.div_add_mod w T
   rw [hpe] at hp hpg;generalize w / T=i at hp hpg hwe;generalize w % T=t at hp hpg hwe;simp only at hp hpg;obtain⟨hp1,hp2⟩:=hp;obtain⟨a1,a2,a3,a4⟩:=hI.ll i hp1;obtain⟨c1,c2,c3,c4⟩:=hI.li i t hp1 hp2;have hdm:=hI.dm i i t hp1 hp1 hp2;have hk5:=hI.k5
   have hkr:kr<nb:=by
    rcases hI.hk.2 with e | e
    ·exact e
    ·have:=hI.lr;rw [e,hI.fr,yQ (by rw [uP]; omega)] at this;cases this
   have b4:=hI.l4;have br:=hI.lr;have hrow:=ml rs T kl hp1;have hrowL:=zo A (ki i) hp2;have hvl:=zw (yB kf l) A T a w i t;have hvs:=dw (num:=yB kf l) (A:=A) (a:=a) hwe
   have hne:∀ j u,j<rs.length->u<T->¬ (j=i/\u=t)->rY (yB kf l) A T a w j u=rY (yB kf l) A T a (w+1) j u:=λj u hj hu hne=>X0 (λe=>hne (by
    have h1:(j*T+u)/ T=j:=by rw [δ,Nat.mul_add_div (by omega),Nat.div_eq_of_lt hu]; rfl
    have h2:(i*T+t)/ T=i:=by rw [δ,Nat.mul_add_div (by omega),Nat.div_eq_of_lt hp2]; rfl
    have h3:(j*T+u) % T=u:=by rw [δ,Nat.mul_add_mod,Nat.mod_eq_of_lt hu]
    have h4:(i*T+t) % T=t:=by rw [δ,Nat.mul_add_mod,Nat.mod_eq_of_lt hp2]
    rw [e] at h1 h3;rw [hwe] at h2 h4;exact⟨by omega,by omega⟩))
   rw [hnum (i,t)] at hvs;have hk1:=hkf ⟨nx2+1,(nx2,⟨2,[[.int .i64 i,.int .i64 t]]⟩) :: objs3⟩ a (i,t) (by simp) (by rw [xU (by omega)]; exact hI.l0) hal ⟨hp1,hp2⟩;simp only [ν,List.nil_append] at hk1;generalize kf a (i,t)= key at hk1 hvs;obtain⟨bb,hse⟩:=mz (σ:=⟨nx2+1+1,(nx2+1,⟨2,[[.int .i64 i,.int .i64 t]]⟩) :: (nx2,⟨2,[[.int .i64 i,.int .i64 t]]⟩) :: objs3⟩) (key:=kk) (m:=M) (more:=more) key (by show St.look _ _=_; rw [xU (by omega),xU (by omega)]; exact hlk) hma hml;have hvg:=yU .i64 (rY (yB kf l) A T a w i t) (show a<_ by rw [hvl]; exact hal);have hset:=zq .i64 (rY (yB kf l) A T a w i t) a (below M key);rw [hvs] at hset;generalize hV:rY (yB kf l) A T a w i t=V at c4 hvl hvg hset;have y1:¬ nx2=4:=by omega
   have y2:¬ nx2+1=4:=by omega
   have y3:¬ nx2=kr:=by omega
   have y4:¬ nx2+1=kr:=by omega
   have y5:¬ nx2=kl i:=by omega
   have y6:¬ nx2+1=kl i:=by omega
   have y7:¬ nx2=ki i t:=by omega
   have y8:¬ nx2+1=ki i t:=by omega
   have y9:¬ nx2+1=nx2:=by omega
   simp only [simprocAttr,-ZA,↓zU,↓zD,zV,zT,zW,hd3,uC,hpg,b4,br,a4,c4,hrow,hrowL,uP,uT,hvl,y1,y2,y3,y4,y5,y6,y7,y8]
   (repeat refine sd ?_)
   refine .go hk1 ?_;simp only [simprocAttr,-ZA,↓zU,↓zD,zV,zT,zW,hd3,uC,hpg,b4,br,a4,c4,hrow,hrowL,uP,uT,hvl,y1,y2,y3,y4,y5,y6,y7,y8,y9]
   (repeat refine sd ?_)
   refine .go hse ?_;refine uv c4 hvl y7 y8 ?_
   have hsg:(rows .i64 V).set a (((rows .i64 V).getD a []).set 0 (D.int .i64 (below M key)))= rows .i64 (rY (yB kf l) A T a (w+1) i t):=by rw [hvg]; exact hset
   simp only [hsg];refine⟨(w+1,?znd,?zod),?ze1,?ze2,by show l.length-(w+1)<l.length-w; omega⟩
   case ze2=>
    (refine yO.same ?_; simp only [wZ,Fr.get,simprocAttr,-ZA,zS])
    exact wrap_i64 (by omega)
   case ze1=>
    have hb:nx2+1<1000000:=by omega
    refine⟨by show w+1<=l.length; omega,by show nx1<=nx2+1+1; omega,by show nx2+1+1<=nx1+2*(w+1); omega,?_,?_⟩
    ·refine hI.Tz hp1 hp2 hne ?_ (λk hk1 hk2=>?_) ?_
     ·show St.look _ _=_;rw [xU y8,xU y7]; exact uN c4
     ·show St.look _ _=_;rw [xU (by omega),xU (by omega),xG,if_neg (λe=>hk2 e.symm)]
     ·show St.look _ _=_;rw [xU (by omega),xU (by omega),xG,if_neg (by omega)]; exact hI.fr
    ·show St.look _ _=_;rw [xU (by omega),xU (by omega),xG,if_neg (by omega)]; exact hlk
  have hd3:¬ ((w:Int)<(l.length:Int)):=by omega
  refine pZ hd3 ?_
  refine⟨(a+1,nx2,objs3),⟨by show a+1<=A; omega,by show nb<=nx2; omega,by show nx2<=5000+4000*(a+1); omega,hI.val λi t hi ht=>dt (by have:=Nat.mul_le_mul_right T (show i+1<=rs.length from hi);rw [Nat.succ_mul] at this;omega)⟩,?_,by show A-(a+1)<A-a; omega⟩
  exact sW
 have hd:((r:Int)<(rs.length:Int)):=by omega
 have hg:=wE rs hrl;have hm:=yX (d:=yF) hrl;have h1:=ok.zM _ hm;have hmore:=λ{nb' kr' kL:Nat} {kj:Nat->Nat} {objs':List (Nat × Ob)}=>hI.more (objs':=objs') (nb':=nb') (kr':=kr') (kL:=kL) (kj:=kj);generalize hrun:rs.getD r yF=run at hg h1;have hcl:=ox (c:=run.zM) (by omega) (by omega);have k5:=hI.k5;have l2:=hI.l2;have l4:=hI.l4;have x1:¬ nb=4:=by omega
 have x2:¬ nb=2:=by omega
 have x3:¬ nb+1=2:=by omega
 have x4:¬ nb+1=4:=by omega
 simp only [simprocAttr,-ZA,↓zU,↓zD,zV,zT,zW,hd,xV,hg,xN.row]
 (repeat refine sd ?_)
 refine .go (cr hcl) ?_;refine p5 l2 x1 x2 x3 x4 ?_
 refine xO (λa:Nat × Nat × List (Nat × Ob)=>[(44,.int .i64 a.1),(43,.int .i64 T),(34,.int .i64 r),(33,.int .i64 rs.length),(32,.sl 2 (xK rs)),(10,.ref (nb+1) 2 0 0),(7,.ref 4 4 0 0),(4,.ref 3 4 0 0),(2,.ref 2 4 0 0),(1,.fn g [.ref 0 4 0 0])]) (λa=>⟨a.2.1,a.2.2⟩)
  (λa=>a.1<=T/\∃ kL kj,BI A nb run.zM a.1 kL kj a.2.1 xW a.2.2) (λa=>T-a.1) (0,nb+2,(nb+1,⟨2,[[.xZ,.sl 1 (us run.zM)]]⟩) :: (nb,⟨2,[run.row]⟩) :: xW) ⟨ε _,1000000,λ_=>0,?_⟩ ?_ ?_
 ·refine⟨by simp,?_,?_,by simp,λi h=>absurd h (γ _),λi j h=>absurd h (γ _),λk hk=>?_,?_⟩
  ·simp [yZ,vQ,xI]
  ·simp only; rw [xU (by omega),xU (by omega)]; exact hI.fr
  ·simp only; rw [xU (by omega),xU (by omega)]
  ·simp only; rw [xU (by omega),xU (by omega)]; exact hI.fr
 ·(refine yO.same ?_; simp [wZ,Fr.get,xN.row])
 intro ⟨t,nx,objs1⟩ ⟨ht,kL,kj,hB⟩;simp only at ht hB ⊢;refine xE mixed ?_
 by_cases htl:t<T
 ·have hd2:((t:Int)<(T:Int)):=by omega
  obtain⟨n1,n2⟩:=hB.n2;have ln:=hB.ln;have lL:=hB.lL;have hLk:=hB.hL;have b2:St.look objs1 2=some ⟨4,[[.int .i64 (A:Int),.int .i64 (F:Int),.int .i64 (T:Int),.sl 2 (xK rs)]]⟩:=by rw [hB.uD 2 (by omega)]; exact l2
  have y1:¬ nx=2:=by omega
  have y2:¬ nx+1=2:=by omega
  have y3:¬ nx=nb+1:=by omega
  have y4:¬ nx+1=nb+1:=by omega
  have y5:¬ nx+2=nb+1:=by omega
  have y6:¬ nx=kL:=by omega
  have y7:¬ nx+1=kL:=by omega
  have y8:¬ kL=nb+1:=by omega
  have e1:St.look (yH objs1 kL) (nb+1)= some ⟨2,[[xI kL 1 (vQ A kj t),.sl 1 (us run.zM)]]⟩:=by rw [xH,if_neg y8]; exact ln
  simp only [simprocAttr,-ZA,↓zU,↓zD,zV,zT,zW,↓fX,↓cI,↓cJ,hd2,ln,lL,b2,y1,y2,y3,y4,y5,y6,y7,y8,e1,uT];refine⟨by omega,by omega,by omega,by omega,⟨(t+1,?zna,?zoa),?h1,?h2,by show T-(t+1)<T-t; omega⟩⟩
  case h2 => 
   (refine yO.same ?_; simp only [wZ,Fr.get,simprocAttr,-ZA,zS])
   exact wrap_i64 (by omega)
  case h1=>
   have hrow:=bR A kj t nx;have hpos:0<(vQ A kj t ++ [[D.yW nx 1 A]]).length:=by simp
   refine⟨by show t+1<=T; omega,nx+1+1,λi=>if i=t then nx else kj i,?_⟩
   refine⟨by show nb+2<=nx+1+1+1/\nx+1+1+1<=nb+2+3*(t+1); omega,?_,?_,.inl ⟨by omega,by show nx+1+1<nx+1+1+1; omega⟩,λi hi=>?_,λi j hi hj he=>?_,λk hk=>?_,?_⟩
   ·show St.look (xM _ _ _++_) _=_;rw [hrow,xQ,if_neg (by omega),xU (by omega),xU (by omega),xG,if_pos rfl,e1]; rfl
   ·show St.look (xM _ _ _++_) _=_;rw [hrow,xQ,if_pos rfl,yQ hpos]; rfl
   ·change i<t+1 at hi;show nb+2<=(if i=t then nx else kj i)/\ (if i=t then nx else kj i)<nx+1+1+1/\(if i=t then nx else kj i)≠ nx+1+1/\St.look (xM _ _ _++_) (if i=t then nx else kj i)= _
    by_cases e:i=t
    ·rw [if_pos e];exact⟨by omega,by omega,by omega,by rw [xQ,if_neg (by omega),xU (by omega),yZ,if_pos rfl]⟩
    ·rw [if_neg e];obtain⟨a,b,c,d⟩:=hB.lj i (by omega);exact⟨a,by omega,by omega,by rw [xQ,if_neg (by omega),xU (by omega),xU (by omega),xG,if_neg (by omega),xH,if_neg (by omega),d]⟩
   ·change i<t+1 at hi;change j<t+1 at hj
    by_cases e:i=t <;> by_cases e2:j=t
    ·omega
    ·rw [if_pos e,if_neg e2] at he;have:=hB.lj j (by omega);omega
    ·rw [if_neg e,if_pos e2] at he;have:=hB.lj i (by omega);omega
    ·rw [if_neg e,if_neg e2] at he;exact hB.dj i j (by omega) (by omega) he
   ·show St.look (xM _ _ _++_) _=_;rw [xQ,if_neg (by omega),xU (by omega),xU (by omega),xG,if_neg (by omega),xH,if_neg (by omega),hB.uD k hk]
   ·show St.look (xM _ _ _++_) _=_;rw [xQ,if_neg (by omega),xU (by omega),xU (by omega),xG,if_neg (by omega),xH]
    split
    ·rfl
    ·exact hB.fr
 have hd2:¬ ((t:Int)<(T:Int)):=by omega
 obtain rfl:T=t:=by omega
 obtain⟨n1,n2⟩:=hB.n2;have hgp:xI kL 1 (vQ A kj T)= .yW kL 1 T:=by rw [sY (by rw [uT]; omega),uT]
 have hgp2:zN 1 (vQ A kj T)= some ⟨1,vQ A kj T⟩:=yQ (by rw [uT]; omega);have ln:=hB.ln;rw [hgp] at ln;have lL:=hB.lL;rw [hgp2] at lL
 have hLk:nb+2<=kL/\kL<nx:=by
  rcases hB.hL with e | e
  ·exact e
  ·rw [e,hB.fr] at lL; cases lL
 have b4:St.look objs1 4=some ⟨4,[[.int .i64 (A:Int),.int .i64 (F:Int),.int .i64 (T:Int),xI kr 2 (tT rs T kl r)]]⟩:=by rw [hB.uD 4 (by omega)]; exact l4
 have hk:=hI.hk
 have br:St.look objs1 kr=zN 2 (tT rs T kl r):=by
  rcases hk.2 with e | e
  ·rw [hB.uD kr e]; exact hI.lr
  ·have:=hI.lr;rw [e,hI.fr] at this;rw [e,hB.fr]; exact this
 have y1:¬ nx=4:=by omega
 have y2:¬ nx+1=4:=by omega
 have y3:¬ nx=nb+1:=by omega
 have y4:¬ nx+1=nb+1:=by omega
 have y5:¬ nx=kr:=by omega
 have y6:¬ kr=4:=by omega
 have e1:St.look (yH objs1 kr) 4=some ⟨4,[[.int .i64 (A:Int),.int .i64 (F:Int),.int .i64 (T:Int),xI kr 2 (tT rs T kl r)]]⟩:=by rw [xH,if_neg y6]; exact b4
 refine Vg hd2 ln b4 br y1 y2 y3 y4 y5 y6 e1 uP ?_;refine⟨by omega,by omega,⟨(r+1,?znb,?zob),?g1,?g2,by show rs.length-(r+1)<rs.length-r; omega⟩⟩
 case g2=>
  (refine yO.same ?_; simp only [wZ,Fr.get,simprocAttr,-ZA,zS])
  exact wrap_i64 (by omega)
 case g1=>
  have hrow:=sx rs T kl r kL;rw [hrun] at hrow;have hpos:0<(tT rs T kl r ++ [[D.yW kL 1 T,.sl 1 (us run.zM)]]).length:=by simp
  refine⟨by show r+1<=rs.length; omega,by show nx+1+1<=5+60*(r+1); omega,nx+1,λi=>if i=r then kL else kl i,λi=>if i=r then kj else ki i,?_⟩
  refine hmore (by show nb<=nx+1+1; omega) (by show nx+1+1<1000000; omega) ?_ (λk hk1 hk2 hk3=>?_) ?_ ?_ ⟨by omega,by show nx+1<nx+1+1; omega⟩ ⟨by omega,by show kL<nx+1+1; omega,by omega,?_⟩ (λt ht=>?_) (λi j hi hj he=>hB.dj i j hi hj he)
  ·show St.look (xM _ _ _++_) _=_;rw [hrow,xQ,if_neg (by omega),xU (by omega),xG,if_pos rfl,e1]; rfl
  ·show St.look (xM _ _ _++_) _=_;rw [xQ,if_neg (by omega),xU (by omega),xG,if_neg (by omega),xH,if_neg (by omega),hB.uD k hk1]
  ·show St.look (xM _ _ _++_) _=_;rw [xQ,if_neg (by omega),xU (by omega),xG,if_neg (by omega),xH]
   split
   ·rfl
   ·exact hB.fr
  ·show St.look (xM _ _ _++_) _=_;rw [hrow,xQ,if_pos rfl,yQ hpos]; rfl
  ·show St.look (xM _ _ _++_) _=_;rw [xQ,if_neg (by omega),xU (by omega),xG,if_neg (by omega),xH,if_neg (by omega),lL]
  ·obtain⟨a,b,c,d⟩:=hB.lj t ht;refine⟨by omega,by show kj t<nx+1+1; omega,by omega,c,?_⟩;show St.look (xM _ _ _++_) _=_;rw [xQ,if_neg (by omega),xU (by omega),xG,if_neg (by omega),xH,if_neg (by omega),d];simp only [rY,γ,false_or,and_false,if_false,Option.some.injEq,Ob.mk.injEq,true_and];exact(mr A).symm
end Go.Pd
