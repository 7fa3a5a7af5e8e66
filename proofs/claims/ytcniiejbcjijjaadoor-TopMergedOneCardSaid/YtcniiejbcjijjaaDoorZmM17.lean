/- Part M17. -/
import Derived.Test.YtcniiejbcjijjaaDoorZmM15
set_option linter.unusedSectionVars false
set_option linter.unusedVariables false
set_option linter.unusedSimpArgs false
set_option linter.defProp false
set_option maxRecDepth 20000
set_option maxHeartbeats 1000000
open Go.Proofs.Tryd
open List renaming take_length->γ,length_take->δ,length_append->ε
namespace Go.Pd
open Go Go.Proofs
open BitVec renaming isValue -> ZA
open Mg
def rk (way:Int) (l:List Int):Int:=if way=1 then sR l else if way=2 then uE l else 0
def pJ (way:Int) (n:Nat) (p:List (BitVec 64)):List Int:=(List.range (2 ^ n)).map λv=>rk way (xL n p v)
theorem iq (way:Int) (n:Nat) (p:List (BitVec 64)):(pJ way n p).length=2 ^ n:=by simp [pJ]
theorem ba {way:Int} {n:Nat} {p:List (BitVec 64)} {v:Nat} (h:v<2 ^ n):(pJ way n p).getD v 0=rk way (xL n p v):=by simp [pJ,List.getD,h]
theorem sr {way:Int} (hw:way=1\/way=2) (n:Nat) (p:List (BitVec 64)):pJ way n p=xE way n p:=by unfold pJ xE;refine List.map_congr_left λv _=>?_;rcases hw with rfl | rfl <;> simp [rk,mK]
theorem qT {σ σ':St} {ρ:Nat->Nat} {k0 n:Nat} {k:IntKind} {l:List Int} (hg:σ.get k0=some ⟨1,rows k l⟩) (ha:cm σ' ρ k0) (hn:n=l.length):vw σ σ' ρ (.yR k0 1 n) (.sl 1 (rows k l))= True:=by subst hn;simp only [vw];exact eq_true ⟨trivial,by omega,ha,⟨1,rows k l⟩,hg,rfl,by rw [zE]; exact Nat.le_refl _,by rw [<- zE k l,γ],wV k l⟩
theorem fz {L:List (List Int)} (hne:L ≠ []) (hl:L.length<=1000):xU prog 32 [.sl 1 (rl L)] hZ (.yR 0 1 L.length) ⟨1,[(0,⟨1,rl L⟩)]⟩:=by
 match L,hne with
 | x :: l,_=>exact cO x l (by simp at hl; omega)
theorem jz {σ:St} {key len:Nat} {l:List (List Int)} (hle:len=l.length) (hget:σ.get key=some ⟨1,rl l⟩) (hlen:l.length<=1000) (hne:l ≠ []) :
  xU prog 35 [.yR key 1 len,.fn 36 []] σ (.yR key 1 (dedup l).length) (σ.set key ⟨1,ez l⟩):=by
 subst hle; exact cP hget hlen hne
theorem xj {σ:St} {key len:Nat} {l:List Int} (hle:len=l.length) (hget:σ.get key=some ⟨1,rows .i64 l⟩) (hl:∀ x ∈ l,0<=x/\x<=1000) (hlen:l.length<=1000) :
  xU prog 30 [.yR key 1 len,.fn 31 []] σ (.yK []) (σ.set key ⟨1,rows .i64 (uJ l)⟩):=by
 subst hle; exact yu hget hl hlen
theorem rq (l:List Int) (x:Int) (hx:0<=x):uE (l ++ [x])= max (uE l) x:=by rw [aJ,uY,nV]; have:=sX l; omega
theorem tm {l:List Int} {c:Int} (h:∀ x ∈ l,0<=x/\x<=c) (k:Nat):0<=sR (l.take k)/\ sR (l.take k)<=(l.take k).length*c:=qC λx hx=>h x (List.mem_of_mem_take hx)
theorem tl (l:List Int) (x:Int):sR (l ++ [x])= sR l+x:=by rw [aT,uB,qZ]; omega
theorem iS (n:Nat) (p:List (BitVec 64)):(xP n p).length=2 ^ n:=by simp [xP]
theorem jF {n:Nat} {p:List (BitVec 64)} (way:Int) (hc:yU n p=0) (hw:1<=way/\way<=3) :
  xU prog 18 [.int .i64 way,.int .i64 n,.sl 1 (us p)] hZ (.yR 0 1 (2 ^ n)) ⟨1,[(0,⟨1,rows .i64 (xE way n p)⟩)]⟩:=by
 refine yP func18 XL λhf=>?_;obtain⟨c1,c2,c3,c4⟩:=uM hc;have hn:n<=4:=by omega
 have h16:=vK hn;have hp0:0<2 ^ n:=Nat.two_pow_pos n;have hl:=iS n p;have hr:=iq way n p;simp only [simprocAttr,-ZA,↓zU,↓zD,zV,zT,zW,xm (show n<=61 by omega)]
 (repeat refine sd ?_)
 refine tp (λk:Nat=>[(21,.int .i64 k),(20,.int .i64 ((2 ^ n:Nat):Int)),(8,yW 0 1 (rl ((xP n p).take k))),(7,yW 1 1 (rows .i64 ((pJ way n p).take k))),(2,.sl 1 (us p)),(1,.int .i64 n),(0,.int .i64 way)]) (λk=>⟨2,xH 0 1 (rl ((xP n p).take k))++ xH 1 1 (rows .i64 ((pJ way n p).take k))⟩) (λk=>k<=2 ^ n) (λk=>2 ^ n-k) 0 (Nat.zero_le _) ?_ ?_
 ·exact zG.view (λk=>k) (by simp) (by simp) (by simp [pz,vw,Fr.get,rl,rows,yW]) (by simp [stays,rl,rows,xH]) (by simp [tH,rl,rows,xH])
 intro k hk;refine yQ mixed ?_;by_cases h:k<2 ^ n
 case neg=>
  have hd:¬ ((k:Int)<((2 ^ n:Nat):Int)):=by omega
  refine yN hd ?_;rw [show (xP n p).take k=xP n p by rw [show k=(xP n p).length by omega,γ],show (pJ way n p).take k=pJ way n p by rw [show k=(pJ way n p).length by omega,γ]];have hne:rows .i64 (pJ way n p)≠ []:=mV (by rw [zE]; omega);have eD:yW 1 1 (rows .i64 (pJ way n p))= .yR 1 1 (2 ^ n):=by rw [kg hne,zE,hr]
  rw [eD,ki hne]
  refine .go [(8,.sl 1 (rl (xP n p))),(7,.yR 0 1 (2 ^ n)),(0,.int .i64 way)] ⟨1,[(0,⟨1,rows .i64 (pJ way n p)⟩)]⟩ ?_ ?_
  ·exact l6 [(0,1)] [0] jS
  by_cases w3:way=3
  case neg=> have b3:(way != 3)= true:=bne_iff_ne.2 w3;refine yN b3 ?_;rw [sr (by omega)];exact .same
  subst w3;refine xC ?_;have hLne:xP n p ≠ []:=mV (by omega);have haL:(nI (xP n p)).length=(xP n p).length:=(mN _).length_eq;refine .go (xU.pc (fz hLne (by omega)) (by simp [D.xZ,D.xS]) (rW _)) ?_;refine xC ?_;refine .go (yv (by simp [St.get,St.look]) hLne (by omega)) ?_;refine xC ?_;refine .go (jz (l:=nI (xP n p)) haL.symm (by simp [St.get,St.look]) (by omega) (mV (by omega))) ?_;refine rE zA hl ?_;have hm:(dedup (nI (xP n p))).length<=1000:=by have:=qt (nI (xP n p)); omega
  refine xO (λk:Nat=>[(75,.int .i64 k),(74,.int .i64 ((2 ^ n:Nat):Int)),(73,.sl 1 (rl (xP n p))),(16,.sl 1 (rl (dedup (nI (xP n p))))),(7,.yR 0 1 (2 ^ n))]) (λk=>⟨1,[(0,⟨1,rows .i64 ((xE 3 n p).take k++(pJ 3 n p).drop k)⟩)]⟩) (λk=>k<=2 ^ n) (λk=>2 ^ n-k) 0 (Nat.zero_le _) ?_ ?_
  ·(refine cv [] [0] ?_; simp only [zP,zQ,simprocAttr,-ZA,exists_eq_left',ne_eq,zR,jS,List.take_zero,List.drop_zero,List.nil_append])
   refine⟨?_,?_,?_,rW _⟩
   ·rintro q (rfl | c)
    ·simp
    ·cases c
   ·unfold ez; rw [ε,zA]; omega
   ·unfold ez; rw [List.take_left' (zA _)]
  intro k hk;refine yQ mixed ?_;have hrm:=wK 3 n p
  by_cases h:k<2 ^ n
  ·have hd:((k:Int)<((2 ^ n:Nat):Int)):=by omega
   obtain⟨b,hs⟩:=aP (m:=dedup (nI (xP n p))) ((xP n p).getD k []) (qq (jK _)) hm;rw [wu] at hs;simp only [simprocAttr,-ZA,↓zU,↓zD,zV,zT,zW,hd,zA,sV (xP n p) (show k<(xP n p).length by omega)]
   (repeat refine sd ?_)
   refine .go (cr hs) ?_;refine xC ?_;have hk2:((xE 3 n p).take k).length=k:=by rw [δ]; omega
   have hk3:((pJ 3 n p).drop k).length=2 ^ n-k:=by rw [List.length_drop]; omega
   have ht:(xE 3 n p).take (k+1)= (xE 3 n p).take k ++ [pS (xP n p) k]:=by rw [wF (d:=0) (by omega),uX h]; rfl
   have hdr:(pJ 3 n p).drop k=(pJ 3 n p).getD k 0 :: (pJ 3 n p).drop (k+1):=by simp [List.getD,show k<(pJ 3 n p).length by omega]
   have hset:(rows .i64 ((xE 3 n p).take k++(pJ 3 n p).drop k)).set k (((rows .i64 ((xE 3 n p).take k++(pJ 3 n p).drop k)).getD k []).set 0 (D.int .i64 (pS (xP n p) k)))= rows .i64 ((xE 3 n p).take (k+1)++ (pJ 3 n p).drop (k+1)):=by rw [xD _ _ (by rw [ε]; omega)];show (rows .i64 _).set k [D.int .i64 (pS (xP n p) k)]=_;rw [nZ,List.set_append_right _ _ (show ((xE 3 n p).take k).length<=k by omega),hk2,Nat.sub_self,hdr,List.set_cons_zero,ht,List.append_assoc];rfl
   refine⟨by omega,by omega,by omega,k+1,by omega,?_,by omega⟩;rw [hset];exact vR
  ·have hd:¬ ((k:Int)<((2 ^ n:Nat):Int)):=by omega
   refine yN hd ?_;rw [show (xE 3 n p).take k=xE 3 n p by rw [show k=(xE 3 n p).length by omega,γ],List.drop_eq_nil_of_le (show (pJ 3 n p).length<=k by omega),List.append_nil];exact .same
 have hd:((k:Int)<((2 ^ n:Nat):Int)):=by omega
 have ek:IntKind.i64.wrap (k:Int)= k:=wrap_i64 (by omega);refine yN hd ?_;have hdl:p.length=(xL n p k).length:=(tX n p k).symm;have hdr:∀ x ∈ xL n p k,0<=x/\x<=1000:=λx hx=>by have:=vN x hx; omega
 have hk2:((xP n p).take k).length=k:=by rw [δ]; omega
 have hk3:((pJ way n p).take k).length=k:=by rw [δ]; omega
 have e1:(xP n p).take (k+1)= (xP n p).take k ++ [uJ (xL n p k)]:=by rw [wF (d:=[]) (by omega),mR h]
 have e2:(pJ way n p).take (k+1)= (pJ way n p).take k ++ [rk way (xL n p k)]:=by rw [wF (d:=0) (by omega),ba h]
 refine .go (xU.l4 (iB p hn h (by omega)) rfl) ?_;have hds:p.length=(uJ (xL n p k)).length:=by rw [pZ]; exact hdl
 have hgl:(rl ((xP n p).take k)++ [[D.yR 2 1 p.length]]).length=(rl ((xP n p).take k ++ [uJ (xL n p k)])).length:=by simp [rl]
 by_cases w1:way=1
 ·subst w1;have er:rk 1 (xL n p k)= sR (xL n p k):=rfl;refine pI ?_
  refine xO (λj:Nat=>[(33,.int .i64 j),(32,.int .i64 p.length),(31,.yR 2 1 p.length),(21,.int .i64 k),(20,.int .i64 ((2 ^ n:Nat):Int)),(11,.int .i64 (sR ((xL n p k).take j))),(10,.yR 2 1 p.length),(8,yW 0 1 (rl ((xP n p).take k))),(7,yW 1 1 (rows .i64 ((pJ 1 n p).take k))),(2,.sl 1 (us p)),(1,.int .i64 n),(0,.int .i64 1)])
   (λ_=>⟨3,(2,⟨1,rows .i64 (xL n p k)⟩) :: (xH 0 1 (rl ((xP n p).take k))++ xH 1 1 (rows .i64 ((pJ 1 n p).take k)))⟩) (λj=>j<=p.length) (λj=>p.length-j) 0 (Nat.zero_le _) ?_ ?_
  ·(refine zG.same ?_; simp [wR,Fr.get,sR])
  intro j hj;refine yQ mixed ?_
  by_cases h2:j<p.length
  ·have vF:((j:Int)<(p.length:Int)):=by omega
   have hj2:((xL n p k).take j).length=j:=by rw [δ]; omega
   have hx:=hdr ((xL n p k).getD j 0) (nT (by omega));have hs:=tm hdr j;rw [hj2] at hs;simp only [simprocAttr,-ZA,↓zU,↓zD,zV,zT,zW,vF,xD .i64 (xL n p k) (show j<(xL n p k).length by omega)]
   (repeat refine sd ?_)
   refine⟨j+1,by omega,?_,by omega⟩;rw [wF (d:=0) (show j<(xL n p k).length by omega),tl]
   (refine zG.same ?_; simp only [wR,Fr.get,simprocAttr,-ZA,zS])
   exact⟨wrap_i64 (by omega),wrap_i64 (by omega)⟩
  ·have vF:¬ ((j:Int)<(p.length:Int)):=by omega
   simp only [simprocAttr,-ZA,↓zU,↓zD,zV,zT,zW,vF];rw [show (xL n p k).take j=xL n p k by rw [show j=(xL n p k).length by omega,γ]];refine .go (xj hdl (by simp [St.get,St.look]) hdr (by omega)) ?_;refine uf zA hk2 hk3 ?_;refine⟨k+1,by omega,?_,by omega⟩;rw [e1,e2,er]
   refine zG.pq [(0,4),(1,5)] [0,1] (by simp) (by simp) (by decide) ⟨by simp only [zP,zQ,simprocAttr,-ZA,exists_eq_left',ne_eq,zR],?_,?_⟩
   ·rw [uO (els':=rl ((xP n p).take k)++ [[.yR 2 1 p.length]]) (by simp) (by simp only [zP,zQ,simprocAttr,-ZA,exists_eq_left',ne_eq,zR]) ?_,tA (by simp) (by simp only [zP,zQ,simprocAttr,-ZA,exists_eq_left',ne_eq,zR]) (wV _ _)]
    ·trivial
    ·rw [<- eG,sJ (rW _)];refine⟨rfl,?_,trivial⟩;rw [qT (by simp only [zP,zQ,simprocAttr,-ZA,exists_eq_left',ne_eq,zR]) (by simp only [zP,zQ,simprocAttr,-ZA,exists_eq_left',ne_eq,zR]) hds];trivial
   ·simp only [pz,zP,zQ,simprocAttr,-ZA,exists_eq_left',ne_eq,zR,jX hgl];exact wrap_i64 (by omega)
 by_cases w2:way=2
 ·subst w2;have er:rk 2 (xL n p k)= uE (xL n p k):=rfl;refine pI ?_
  refine xO (λj:Nat=>[(45,.int .i64 j),(44,.int .i64 p.length),(43,.yR 2 1 p.length),(21,.int .i64 k),(20,.int .i64 ((2 ^ n:Nat):Int)),(11,.int .i64 (uE ((xL n p k).take j))),(10,.yR 2 1 p.length),(8,yW 0 1 (rl ((xP n p).take k))),(7,yW 1 1 (rows .i64 ((pJ 2 n p).take k))),(2,.sl 1 (us p)),(1,.int .i64 n),(0,.int .i64 2)])
   (λ_=>⟨3,(2,⟨1,rows .i64 (xL n p k)⟩) :: (xH 0 1 (rl ((xP n p).take k))++ xH 1 1 (rows .i64 ((pJ 2 n p).take k)))⟩) (λj=>j<=p.length) (λj=>p.length-j) 0 (Nat.zero_le _) ?_ ?_
  ·(refine zG.same ?_; simp [wR,Fr.get,uE])
  intro j hj;refine yQ mixed ?_
  by_cases h2:j<p.length
  ·have vF:((j:Int)<(p.length:Int)):=by omega
   have hj2:((xL n p k).take j).length=j:=by rw [δ]; omega
   have hx:=hdr ((xL n p k).getD j 0) (nT (by omega));simp only [simprocAttr,-ZA,↓zU,↓zD,zV,zT,zW,vF,xD .i64 (xL n p k) (show j<(xL n p k).length by omega)]
   (repeat refine sd ?_)
   refine⟨j+1,by omega,?_,by omega⟩;rw [wF (d:=0) (show j<(xL n p k).length by omega),rq _ _ hx.1]
   (refine zG.same ?_; simp only [wR,Fr.get,simprocAttr,-ZA,zS])
   exact⟨wrap_i64 (by omega),by rw [ao]⟩
  ·have vF:¬ ((j:Int)<(p.length:Int)):=by omega
   simp only [simprocAttr,-ZA,↓zU,↓zD,zV,zT,zW,vF];rw [show (xL n p k).take j=xL n p k by rw [show j=(xL n p k).length by omega,γ]];refine .go (xj hdl (by simp [St.get,St.look]) hdr (by omega)) ?_;refine uf zA hk2 hk3 ?_;refine⟨k+1,by omega,?_,by omega⟩;rw [e1,e2,er]
   refine zG.pq [(0,4),(1,5)] [0,1] (by simp) (by simp) (by decide) ⟨by simp only [zP,zQ,simprocAttr,-ZA,exists_eq_left',ne_eq,zR],?_,?_⟩
   ·rw [uO (els':=rl ((xP n p).take k)++ [[.yR 2 1 p.length]]) (by simp) (by simp only [zP,zQ,simprocAttr,-ZA,exists_eq_left',ne_eq,zR]) ?_,tA (by simp) (by simp only [zP,zQ,simprocAttr,-ZA,exists_eq_left',ne_eq,zR]) (wV _ _)]
    ·trivial
    ·rw [<- eG,sJ (rW _)];refine⟨rfl,?_,trivial⟩;rw [qT (by simp only [zP,zQ,simprocAttr,-ZA,exists_eq_left',ne_eq,zR]) (by simp only [zP,zQ,simprocAttr,-ZA,exists_eq_left',ne_eq,zR]) hds];trivial
   ·simp only [pz,zP,zQ,simprocAttr,-ZA,exists_eq_left',ne_eq,zR,jX hgl];exact wrap_i64 (by omega)
 have b1:(way==1)= false:=beq_eq_false_iff_ne.2 w1;have b2:(way==2)= false:=beq_eq_false_iff_ne.2 w2;have er:rk way (xL n p k)= 0:=by rw [rk,if_neg w1,if_neg w2]
 refine rE b1 b2 ?_;refine .go (xj hdl (by simp [St.get,St.look]) hdr (by omega)) ?_;refine uf zA hk2 hk3 ?_;refine⟨k+1,by omega,?_,by omega⟩;rw [e1,e2,er]
 refine zG.pq [(0,4),(1,5)] [0,1] (by simp) (by simp) (by decide) ⟨by simp only [zP,zQ,simprocAttr,-ZA,exists_eq_left',ne_eq,zR],?_,?_⟩
 ·rw [uO (els':=rl ((xP n p).take k)++ [[.yR 2 1 p.length]]) (by simp) (by simp only [zP,zQ,simprocAttr,-ZA,exists_eq_left',ne_eq,zR]) ?_,tA (by simp) (by simp only [zP,zQ,simprocAttr,-ZA,exists_eq_left',ne_eq,zR]) (wV _ _)]
  ·trivial
  ·rw [<- eG,sJ (rW _)];refine⟨rfl,?_,trivial⟩;rw [qT (by simp only [zP,zQ,simprocAttr,-ZA,exists_eq_left',ne_eq,zR]) (by simp only [zP,zQ,simprocAttr,-ZA,exists_eq_left',ne_eq,zR]) hds];trivial
 ·simp only [pz,zP,zQ,simprocAttr,-ZA,exists_eq_left',ne_eq,zR,jX hgl];exact wrap_i64 (by omega)
end Go.Pd
