/- Part ST. -/
import Derived.Test.YtndfaefmmcoapaaGreatUaC4
import Derived.Test.YtndfaefmmcoapaaGreatUaAX
import Derived.Test.YtndfaefmmcoapaaGreatUaC7
set_option linter.unusedSectionVars false
set_option linter.unusedVariables false
set_option linter.unusedSimpArgs false
set_option linter.defProp false
set_option maxRecDepth 20000
set_option maxHeartbeats 1000000
namespace Go.Pd
open Go Go.Proofs
open BitVec renaming isValue -> ZA
open Ru
theorem aLc (s:pF) (t:Int):yU Tryz.prog 30 [s.d,.int .i64 t] (.tup [(fZ s t).1.d,.int .i64 (fZ s t).2]):=by
 have hC:=aA2 s;have hD:s.d = .agg [.int .i64 s.ag,.int .i64 s.fa,.int .i64 s.ln,.sl 2 (uE s.rs)]:=rfl;by_cases hz:chk s=0
 case neg=>
  have e:(chk s != 0)= true:=by simpa using hz
  rw [show fZ s t=(aVu,chk s) from if_pos hz];rw [hD] at hC ⊢;refine xX.xQ mixed Tryz.func30 k30 (by simp) fun hf=>?_;simp only [simprocAttr,-ZA,↓zU,↓zD,zV,zT,zW]
  (repeat refine sd ?_)
  refine .go (cq hC) ?_;simp only [simprocAttr,-ZA,↓zU,↓zD,zV,zT,zW,e];exact .drop (by simp) (by simp [vw,vwL,aVu,qL.d,us,rr])
 obtain⟨A,F,T,rs,rfl,ok⟩:=aAo hz;obtain⟨T1,T16⟩:=ok.hT;obtain⟨R1,R64⟩:=ok.hR
 have hm:fZ ⟨A,F,T,rs⟩ t=if t<0\/(T:Int)<=t then(aVu,2) else(qJ rs (yM rs.length t.toNat) A F,0):=by unfold fZ; rw [if_neg (by simpa using hz)]; rfl
 rw [hm];rw [hz] at hC;rw [hD] at hC ⊢;simp only at hC ⊢
 by_cases t1:t<0
 ·rw [if_pos (.inl t1)];refine xX.xQ mixed Tryz.func30 k30 (by simp) fun hf=>?_;simp only [simprocAttr,-ZA,↓zU,↓zD,zV,zT,zW]
  (repeat refine sd ?_)
  refine .go (cq hC) ?_;simp only [simprocAttr,-ZA,↓zU,↓zD,zV,zT,zW,t1];exact .drop (by simp) (by simp [vw,vwL,aVu,qL.d,us,rr])
 by_cases t2:(T:Int)<=t
 ·rw [if_pos (.inr t2)];refine xX.xQ mixed Tryz.func30 k30 (by simp) fun hf=>?_;simp only [simprocAttr,-ZA,↓zU,↓zD,zV,zT,zW]
  (repeat refine sd ?_)
  refine .go (cq hC) ?_;simp only [simprocAttr,-ZA,↓zU,↓zD,zV,zT,zW,t1,t2];exact .drop (by simp) (by simp [vw,vwL,aVu,qL.d,us,rr])
 rw [if_neg (by omega)];obtain⟨t,rfl⟩:=Int.eq_ofNat_of_zero_le (show 0<=t by omega);rw [Int.toNat_natCast];have htT:t<T:=by omega
 have hpt:=aGj ok (l:=yM rs.length t) (by rw [wH]; omega) (aHg htT (Nat.le_refl _));have hck:=jD (aB ok (l:=yM rs.length t) (by rw [wH]; omega) (by rw [wH]; omega));unfold sD aIi at hpt;unfold qL.d qJ at hck;refine xX.xQ mixed Tryz.func30 k30 (by simp) fun hf=>?_;simp only [simprocAttr,-ZA,↓zU,↓zD,zV,zT,zW]
 (repeat refine sd ?_)
 refine .go (cq hC) ?_;simp only [simprocAttr,-ZA,↓zU,↓zD,zV,zT,zW,t1,t2,yD]
 refine uX (fun r:Nat=>[(29,.int .i64 r),(28,.int .i64 rs.length),(7,xA 2 2 (ptR (yM r t))),(4,.ref 1 3 0 0),(2,.ref 0 4 0 0),(1,.int .i64 t)])
  (fun r=>⟨3,yY 2 2 (ptR (yM r t))++ [(1,⟨3,[[.int .i64 0,.xL,.xL]]⟩),(0,⟨4,[[.int .i64 A,.int .i64 F,.int .i64 T,.sl 2 (uE rs)]]⟩)]⟩)
  (fun r=>r<=rs.length) (fun r=>rs.length-r) 0 (Nat.zero_le _) ?_ ?_
 ·(refine xH.ren [] [1,0] (by simp) (by simp) (by decide) ?_; simp only [yZ,vwL,vw,vwF,sw,St.get,St.look,Fr.get,simprocAttr,-ZA,exists_eq_left',ne_eq,zR,yM,List.range_zero,List.map_nil,aC4,zM,zN,List.nil_append])
 intro r hr;refine xP mixed ?_
 by_cases hrl:r<rs.length
 ·have hd:((r:Int)<(rs.length:Int)):=by omega
  have hS:=aQx r t;have hln:=wH r t;generalize yM r t=l at hS hln;simp only [simprocAttr,-ZA,↓zU,↓zD,zV,zT,zW,hd,mX,hln]
  (repeat refine sd ?_)
  refine⟨r+1,by omega,?_,by omega⟩;rw [hS,aGg]
  (refine xH.ren [(2,3)] [2,1,0] (by simp) (by simp) (by decide) ?_; simp only [yZ,vwL,vw,vwF,sw,St.get,St.look,Fr.get,simprocAttr,-ZA,exists_eq_left',ne_eq,zR,aZo])
  exact wrap_i64 (by omega)
 have hd:¬ ((r:Int)<(rs.length:Int)):=by omega
 rw [show r=rs.length by omega];rw [show r=rs.length by omega] at hd;generalize yM rs.length t=l at hpt hck ⊢;simp only [simprocAttr,-ZA,↓zU,↓zD,zV,zT,zW,hd]
 refine .go [(7,.sl 2 (ptR l)),(4,.ref 1 3 0 0),(2,.ref 0 4 0 0),(1,.int .i64 t)] ⟨2,[(1,⟨3,[[.int .i64 0,.xL,.xL]]⟩),(0,⟨4,[[.int .i64 A,.int .i64 F,.int .i64 T,.sl 2 (uE rs)]]⟩)]⟩ ?_ ?_
 ·(refine xH.ren [] [1,0] (by simp) (by simp) (by decide) ?_; simp only [yZ,vwL,vw,vwF,sw,St.get,St.look,Fr.get,simprocAttr,-ZA,exists_eq_left',ne_eq,zR,aZo])
 simp only [simprocAttr,-ZA,↓zU,↓zD,zV,zT,zW]
 (repeat refine sd ?_)
 refine .go (cr hpt) ?_;simp only [simprocAttr,-ZA,↓zU,↓zD,zV,zT,zW];refine .go (cr hck) ?_;simp only [simprocAttr,-ZA,↓zU,↓zD,zV,zT,zW];exact .drop (by simp) (by simp [vw,vwL,qL.d,qJ])
open Rs Fm Ru Te Kb
namespace Kb
end Kb
open Rs Fm Ru Te Kb
namespace Kb
theorem aBq {T W:Nat} {x:Tab} (hW:W<=64):(pH T W x==pG W)= (List.range W).all fun w=>x (pt T w):=by
 rw [Bool.eq_iff_iff,beq_iff_eq,aYd (T:=T) hW,List.all_eq_true]
 constructor
 ·intro h w hw;have hw:=List.mem_range.1 hw;have:=congrArg (fun b:BitVec 64=>b.getLsbD w) h;simp only [yV hW,decide_eq_true hw,Bool.true_and] at this;exact this
 ·intro h;refine BitVec.eq_of_getLsbD_eq fun i _=>?_;rw [yV hW,yV hW]
  by_cases hi:i<W
  ·rw [h i (List.mem_range.2 hi)]
  ·rw [decide_eq_false hi,Bool.false_and,Bool.false_and]
end Kb
theorem aNx {rs:List zG} {A F T t:Nat} (ok:OkR rs A F T) (ht:t<T) {f:List Nd} (hc:xC f=0) (hfr:(rB .andNot .i64 (zF f:Int) 15 != 0)= false) (hft:rU f A F=true) :
  yU Tryz.prog 31 [(qJ rs (yM rs.length t) A F).d,.sl 6 (ndR f)] (.tup [.bool ((List.range rs.length).all fun r=>evT (nL rs t) A 1 (uV f) (r,0)),.int .i64 0]):=by
 have hR:=ok.hR;have hl:(yM rs.length t).length=rs.length:=wH _ _;have h1:=aX9 (bZg ok ht) (by rw [mV]; omega) hc hfr hft;rw [aKp] at h1;unfold aTv at h1;rw [if_pos (fI ok hc hfr hft),mV,Nat.mul_one] at h1;have hm:=aBq (T:=1) (W:=rs.length) (x:=evT (nL rs t) A 1 (uV f)) (by omega)
 have e:(fun w=>evT (nL rs t) A 1 (uV f) (pt 1 w))= fun r=>evT (nL rs t) A 1 (uV f) (r,0):=by funext r; unfold pt; rw [Nat.div_one,Nat.mod_one]
 rw [e] at hm;rw [<- hm,<- aR5 hR.1 hR.2];generalize pH 1 rs.length (evT (nL rs t) A 1 (uV f))= S at *
 have hd:(qJ rs (yM rs.length t) A F).d = .agg [.int .i64 (rs.length:Int),.sl 1 (us (mG rs (yM rs.length t) F)),.sl 1 (rr (rC rs (yM rs.length t) A))]:=by show D.agg [.int .i64 ((yM rs.length t).length:Int),_,_]=_;rw [hl]; rfl
 rw [hd] at h1 ⊢;have hw:IntKind.i64.wrap (64-(rs.length:Int))= ((64-rs.length:Nat):Int):=by rw [wrap_i64 (by omega)]; omega
 refine xX.xQ mixed Tryz.func31 k31 (by simp) fun hf=>?_;simp only [simprocAttr,-ZA,↓zU,↓zD,zV,zT,zW]
 (repeat refine sd ?_)
 refine .go (cr h1) ?_;simp only [simprocAttr,-ZA,↓zU,↓zD,zV,zT,zW,hw]
 (repeat refine sd ?_)
 exact .drop (by simp) (by simp [vw,vwL])
open Rs Fm Ru Te Kb
namespace Kb
abbrev fcT (i:Int):Tr:=.nd 3 i 0 0 .nil .nil
def bX1 (a x:Nat):List Nd:=orA (rH a (wZ x)) (rH a (aQc (wZ x)))
theorem aMp {A F x:Nat} (hx:x<F) (hF:F<=8):Is A F (wZ x) (fcT x)/\ szT (fcT x)<=1:=by
 have h2:okN A F ⟨3,(x:Int),0,0,0,0⟩= true:=by
  have h1:sX ⟨3,(x:Int),0,0,0,0⟩&&& 3824=0:=show (0:Nat)&&& 3824=0 by decide
  have h2:wJ ⟨3,(x:Int),0,0,0,0⟩= 0:=rfl
  have h3:tF ⟨3,(x:Int),0,0,0,0⟩/ 2 ^ F=0:=by have:tF ⟨3,(x:Int),0,0,0,0⟩= 2 ^ x:=rfl;rw [this];exact Nat.div_eq_of_lt (Nat.pow_lt_pow_right (by decide) hx)
  simp [okN,h1,h2,h3]
 have hc:x=0\/x=1\/x=2\/x=3\/x=4\/x=5\/x=6\/x=7:=by omega
 rcases hc with rfl | rfl | rfl | rfl | rfl | rfl | rfl | rfl <;> exact⟨⟨by decide +kernel,by kernel_rfl,h2,trivial,trivial⟩,by decide +kernel⟩
theorem aHx : ∀ a:Fin 4,∀ x:Fin 8,(rB .andNot .i64 (zF (bX1 a.val x.val):Int) 15 != 0)= false:=by decide +kernel
theorem aE7 {A F a x:Nat} (ha:a<A) (hA:A<=4) (hx:x<F) (hF:F<=8):Is A F (bX1 a x) (orT (Te.knT a (fcT x)) (Te.knT a (nT (fcT x)))):=by obtain⟨I1,z1⟩:=aMp (A:=A) hx hF;obtain⟨I2,z2⟩:=aUl ha hA I1 (by omega);obtain⟨I3,z3⟩:=bZu I1 (by omega);obtain⟨I4,z4⟩:=aUl ha hA I3 (by omega);obtain⟨I5,z5⟩:=bV0 I2 I4 (by omega);exact I5
theorem aMb {s:pF} {f:List Nd} (hE:aO0 s f=0):rU f s.ag s.fa=true:=by
 unfold aO0 at hE
 split at hE
 ·rename_i h; exact absurd hE h
 split at hE
 ·rename_i h; exact absurd hE h
 split at hE
 ·cases hE
 split at hE
 ·cases hE
 ·rename_i h; simpa using h
theorem aRk {see:List (BitVec 64)} {sts:List (List (BitVec 64))} {a i j t:Nat} (hi:t<(stR sts i).length) (hj:t<(stR sts j).length) (h:qI see sts a (i,t)= qI see sts a (j,t)):(stR sts i).getD t 0#64 &&& see.getD a 0=(stR sts j).getD t 0#64 &&& see.getD a 0:=by unfold qI at h;have h1:sR see (stR sts i) a t=sR see (stR sts j) a t:=(List.map_inj_right fun x y=>aYz.1).1 h;unfold sR at h1;have h2:=congrArg (fun l:List (BitVec 64)=>l.getD t 0#64) h1;simpa [List.getD,List.getElem?_take,hi,hj] using h2
theorem aN5 {see:List (BitVec 64)} {sts:List (List (BitVec 64))} {T i t:Nat} (hi:i<sts.length):aYo (sS see sts T) (i,t)= (stR sts i).getD t 0:=by unfold aYo;rw [lR hi]
theorem aHw {p:PrA} {F k:Nat} (hv:PrV p F) (hk:k<=5) {sts:List (List (BitVec 64))} (hS:PlS p F sts k) {t:Nat} (ht:t<k+1) {a:Nat} (ha:a<p.see.length) {x:Nat} (hx:x<F) (hb:(p.see.getD a 0#64).getLsbD x=true) :
  ((List.range (sS p.see sts (k+1)).length).all fun r=>evT (nL (sS p.see sts (k+1)) t) p.see.length 1 (uV (bX1 a x)) (r,0))= true:=by
 have hl:=pY p.see sts (k+1);rw [List.all_eq_true];intro r hr;have hr:=List.mem_range.1 hr;rw [(aE7 ha hv.hA.2 hx hv.hF).e,bV3,aUp,aUp]
 have key:∀ q ∈ ptl (nL (sS p.see sts (k+1)) t) 1,wE (nL (sS p.see sts (k+1)) t) a q=wE (nL (sS p.see sts (k+1)) t) a (r,0)->evT (nL (sS p.see sts (k+1)) t) p.see.length 1 (fcT x) q=((stR sts r).getD t 0#64).getLsbD x:=fun q hq e=>by
  obtain⟨j,v⟩:=q;obtain⟨hj,hv0⟩:=aE1 (by omega) hq;simp only at hj hv0;rw [mV] at hj;obtain rfl:v=0:=by omega
  rw [jP hj,jP hr] at e;rw [hl] at hj hr;have h1:=(aN4 (T:=k+1) ha (x:=(j,t)) (y:=(r,t)) ⟨hj,ht⟩ ⟨hr,ht⟩).1 e;have h2:=aRk (by rw [hS.run _ (sK hj)]; exact ht) (by rw [hS.run _ (sK hr)]; exact ht) h1;have h3:=congrArg (fun y:BitVec 64=>y.getLsbD x) h2;have hb':(p.see.getD a 0).getLsbD x=true:=hb;simp only [BitVec.getLsbD_and,hb',Bool.and_true] at h3;rw [<- h3];show (aYo (nL (sS p.see sts (k+1)) t) (j,0)).getLsbD x=_;rw [aUg (by rw [hl]; exact hj),aN5 hj];rfl
 cases hc:((stR sts r).getD t 0#64).getLsbD x with
 | true=> rw [aXy.2 fun q hq e=>(key q hq e).trans hc];rfl
 | false=>
  have:lX (nL (sS p.see sts (k+1)) t) 1 a (evT (nL (sS p.see sts (k+1)) t) p.see.length 1 (nT (fcT x))) (r,0)= true:=aXy.2 fun q hq e=>by rw [bZ6,key q hq e,hc]; rfl
  rw [this,Bool.or_true]
theorem bZa {p:PrA} {F k:Nat} (hv:PrV p F) (hk:k<=5) {sts:List (List (BitVec 64))} (hS:PlS p F sts k) {t:Nat} (ht:t<k+1) {a:Nat} (ha:a<p.see.length) {x:Nat} (hx:x<F) (hb:(p.see.getD a 0#64).getLsbD x=true) :
  yU Tryz.prog 31 [(qJ (sS p.see sts (k+1)) (yM (sS p.see sts (k+1)).length t) p.see.length F).d,.sl 6 (ndR (bX1 a x))] (.tup [.bool true,.int .i64 0]):=by
 have ok:=aT2 hv hk hS;have hA:=hv.hA;have hF:=hv.hF;have I:=aE7 ha hA.2 hx hF;have h:=aNx ok ht I.c (aHx ⟨a,by omega⟩ ⟨x,by omega⟩) (aMb (I.req rfl (jO ok) ok))
 rwa [aHw hv hk hS ht ha hx hb] at h
def vG (p:PrA):PrA:=⟨p.F,p.init,p.see,p.xN,List.replicate p.code.length []⟩
theorem aFp {p:PrA} (h:tP p=0):tP (vG p)= 0:=by
 have h1:zX p=0/\wF (wF (asE p)) p.xN=0:=by
  unfold tP at h
  split at h
  ·rename_i h0; exact absurd h h0
  rename_i h0
  split at h
  ·rename_i h1; exact absurd h h1
  rename_i h1;exact⟨by simpa using h0,by simpa using h1⟩
 have h2:zX (vG p)= 0:=by
  have:=h1.1;unfold zX at this ⊢;unfold vG;simp only [List.length_replicate]
  split at this
  ·cases this
  rename_i q1
  split at this
  ·cases this
  rename_i q2
  rw [if_neg q1,if_neg (by simp only [not_or] at q2 ⊢;refine⟨q2.1,q2.2.1,q2.2.2.1,?_⟩;simp only [List.any_eq_true,List.mem_replicate,not_exists,not_and,and_imp];rintro x _ rfl;simp)]
  exact this
 have h3:wF (wF (clE (vG p))) (vG p).code=0:=tK.2 fun l hl=>by
  have:l = []:=by have:l ∈ List.replicate p.code.length ([]:List ClA):=hl;exact(List.mem_replicate.1 this).2
  rw [this];rfl
 have h4:wF (wF (asE (vG p))) (vG p).xN=0:=h1.2;unfold tP;rw [if_neg (by simpa using h2),if_neg (by simpa using h4)];exact h3
theorem aJc {p:PrA} {sts:List (List (BitVec 64))} {t a w:Nat}:jY (vG p) sts t a w = -1:=by
 have:(vG p).code.getD a [] = []:=by show (List.replicate p.code.length ([]:List ClA)).getD a [] = [];simp only [List.getD,List.getElem?_replicate];split <;> rfl
 unfold jY;rw [this];rfl
theorem aRj {p:PrA} {s0:BitVec 64}:∀ (l:List Int) (s:BitVec 64),(∀ k ∈ l,k = -1)->l.foldl (aTz p s0) s=s
 | [],_,_=>rfl
 | k :: l,s,h=>by rw [List.foldl_cons,h k (by simp)];have:aTz p s0 s (-1)= s:=if_pos (by decide);rw [this];exact aRj l s fun k hk=>h k (List.mem_cons_of_mem _ hk)
theorem dK {p:PrA}:∀ k i,i<p.init.length->(zL (vG p) k).length=p.init.length/\stR (zL (vG p) k) i=List.replicate (k+1) (p.init.getD i 0#64)
 | 0,i,hi=>by refine⟨by simp [zL,cC,vG],?_⟩;simp [zL,cC,vG,stR,List.getD,hi]
 | k+1,i,hi=>by
  obtain⟨h1,h2⟩:=dK (p:=p) k i hi;have e:zL (vG p) (k+1)= mE (vG p) (zL (vG p) k) (vW (vG p) (zL (vG p) k) k):=rfl;rw [e];generalize zL (vG p) k=sts at *;refine⟨by simp [mE,h1],?_⟩
  have e2:stR (mE (vG p) sts (vW (vG p) sts k)) i=stR sts i ++ [aOq (vG p) sts (vW (vG p) sts k) i]:=by unfold mE;simp [stR,List.getD,show i<sts.length by omega]
  have e3:aOq (vG p) sts (vW (vG p) sts k) i=aYv (stR sts i):=by unfold aOq bXh;refine aRj _ _ fun m hm=>?_;simp only [vW,List.map_map,List.mem_map,List.mem_range] at hm;obtain⟨a,_,rfl⟩:=hm;simp [List.getD,show i<sts.length by omega,aJc]
  rw [e2,e3,h2]
  have e4:aYv (List.replicate (k+1) (p.init.getD i 0#64))= p.init.getD i 0#64:=by unfold aYv;simp [List.getD]
  rw [e4];exact(List.replicate_succ' ..).symm
end Kb
open Rs Fm Ru Te Kb
theorem aJ8 {m:BitVec 64} {x:Nat} (hx:x<64):(m >>> x &&& 1#64==0#64)= !m.getLsbD x:=by rw [aYa];cases m.getLsbD x <;> rfl
theorem aJb {σ:St} {K:Nat->Prop} {key n:Nat} (h:σ.get key=some ⟨1,List.replicate n [.xL]⟩) (hk:¬ K key):Seen σ K (.osl key 1 n) (.sl 1 (cdR (List.replicate n []))):=by
 have hl:(cdR (List.replicate n [])).length=n:=by rw [yE,List.length_replicate]
 have hg:∀ i,i<n->(cdR (List.replicate n [])).getD i [] = [.sl 2 []]:=fun i hi=>by rw [mR _ (by rw [List.length_replicate]; exact hi)];simp [List.getD,hi,clR]
 refine Seen.osl h hk (by decide) rfl (by simp) hl (fun e he=>?_) fun i hi j hj=>?_
 ·obtain⟨i,hi,rfl⟩:=List.getElem_of_mem he;have:=hg i (by omega);simp only [List.getD,hi,List.getElem?_eq_getElem,Option.getD_some] at this;rw [this]; rfl
 ·obtain rfl:j=0:=by omega
  rw [hg i hi];have:(List.replicate n [D.xL]).getD i [] = [.xL]:=by simp [List.getD,hi]
  show Seen σ K (((List.replicate n [D.xL]).getD i []).getD 0 .top) _;rw [this];exact Seen.nil 2
theorem bVr (p:PrA) (n:Nat) (hn:n<256):yU Tryz.prog 8 [p.d,.int .u8 (n:Int)] (.bool true):=by
 have hF:=bWj p;have hS:=fun h=>aPw (p:=p) (l:=[]) h;have hR:=fun sm=>aPb p sm;have hA:=aM4;have hP:=fun sm=>aT9 p sm ((n % 4+1:Nat):Int);have hQ:=fun sm=>aT9 (vG p) sm ((n % 4+1:Nat):Int);have e1:IntKind.i64.wrap (n:Int)= (n:Int):=wrap_i64 (by omega)
 have e2:((n:Int)).tmod 4=((n % 4:Nat):Int):=by rw [Int.tmod_eq_emod_of_nonneg (by omega)]; omega
 have e3:IntKind.i64.wrap (1+((n % 4:Nat):Int))= ((n % 4+1:Nat):Int):=by rw [wrap_i64 (by omega)]; omega
 cases hb:cM p [] with
 | false=> have hD:p.d = .agg [.int .i64 p.F,.sl 1 (us p.init),.sl 1 (us p.see),.sl 1 (mvR p.xN),.sl 1 (cdR p.code)]:=rfl;rw [hb] at hF;rw [hD] at *;refine xX.xQ mixed Tryz.func8 k8 (by simp) fun hf=>?_;simp only [simprocAttr,-ZA,↓zU,↓zD,zV,zT,zW];refine .go (cq hA) ?_;simp only [simprocAttr,-ZA,↓zU,↓zD,zV,zT,zW];refine .go (cq hF) ?_;simp only [simprocAttr,-ZA,↓zU,↓zD,zV,zT,zW];refine .go (cq hA) ?_;simp only [simprocAttr,-ZA,↓zU,↓zD,zV,zT,zW];exact .dv
 | true=>
 rw [hb] at hF;have sm:=hS hb;have hR:=hR sm;have hP:=hP sm
 by_cases c6:6<p.init.length
 ·have c6':(6:Int)<(p.init.length:Int):=by omega
  have hD:p.d = .agg [.int .i64 p.F,.sl 1 (us p.init),.sl 1 (us p.see),.sl 1 (mvR p.xN),.sl 1 (cdR p.code)]:=rfl;rw [hD] at *;refine xX.xQ mixed Tryz.func8 k8 (by simp) fun hf=>?_;simp only [simprocAttr,-ZA,↓zU,↓zD,zV,zT,zW];refine .go (cq hA) ?_;simp only [simprocAttr,-ZA,↓zU,↓zD,zV,zT,zW];refine .go (cq hF) ?_;simp only [simprocAttr,-ZA,↓zU,↓zD,zV,zT,zW,xR,c6'];refine .go (cq hA) ?_;simp only [simprocAttr,-ZA,↓zU,↓zD,zV,zT,zW];exact .dv
 have c6':¬ (6:Int)<(p.init.length:Int):=by omega
 by_cases hz:tP p=0
 case neg=>
  have hz':(tP p != 0)= true:=by simpa using hz
  have hD:p.d = .agg [.int .i64 p.F,.sl 1 (us p.init),.sl 1 (us p.see),.sl 1 (mvR p.xN),.sl 1 (cdR p.code)]:=rfl;rw [hD] at *;refine xX.xQ mixed Tryz.func8 k8 (by simp) fun hf=>?_;simp only [simprocAttr,-ZA,↓zU,↓zD,zV,zT,zW];refine .go (cq hA) ?_;simp only [simprocAttr,-ZA,↓zU,↓zD,zV,zT,zW];refine .go (cq hF) ?_;simp only [simprocAttr,-ZA,↓zU,↓zD,zV,zT,zW,xR,c6'];refine .go (cq hR) ?_;simp only [simprocAttr,-ZA,↓zU,↓zD,zV,zT,zW,hz'];refine .go (cq hA) ?_;simp only [simprocAttr,-ZA,↓zU,↓zD,zV,zT,zW];exact .dv
 have hz':(tP p != 0)= false:=by simpa using hz
 obtain⟨h0,F,hv,hs⟩:=jA (k:=n % 4) hz (by omega);have hqz:=aFp hz;obtain⟨h0q,F',hvq,hsq⟩:=jA (k:=n % 4) hqz (by omega);have hFF:F'=F:=by have h1:=hv.fe; have h2:p.F=(F':Int):=hvq.fe; omega
 subst hFF;have hQ:=hQ ⟨sm.init,by show (List.replicate p.code.length ([]:List ClA)).length<=_; rw [List.length_replicate]; exact sm.code,sm.mv⟩;rw [h0q,hsq] at hQ
 have hDq:(vG p).d = .agg [.int .i64 F',.sl 1 (us p.init),.sl 1 (us p.see),.sl 1 (mvR p.xN),.sl 1 (cdR (List.replicate p.code.length []))]:=by rw [<- hv.fe]; rfl
 rw [hDq] at hQ
 have hql:(sS (vG p).see (zL (vG p) (n % 4)) (n % 4+1)).length=p.init.length:=by rw [pY];exact gR hvq (n % 4)
 have hqg:∀ i,i<p.init.length->∃ L,(uE (sS (vG p).see (zL (vG p) (n % 4)) (n % 4+1))).getD i [] = [.sl 1 L,.sl 1 (us (List.replicate (n % 4+1) (p.init.getD i 0#64)))]:=fun i hi=>by rw [rQ _ (by omega),lR (by rw [gR hvq]; exact hi),(dK (n % 4) i hi).2];exact⟨_,rfl⟩
 unfold pF.d pF.cells at hQ;simp only at hQ;clear hsq h0q;generalize sS (vG p).see (zL (vG p) (n % 4)) (n % 4+1)= qs at *;have hsee:(vG p).see.length=p.see.length:=rfl;rw [hsee] at hQ;have hPS:=mW hv (n % 4);have ok:=aT2 hv (show n % 4<=5 by omega) hPS;have hV:=fun t (ht:t<n % 4+1) a (ha:a<p.see.length) x (hx:x<F') hb=>bZa hv (show n % 4<=5 by omega) hPS ht ha hx hb;rw [h0,hs] at hP
 have hD:p.d = .agg [.int .i64 F',.sl 1 (us p.init),.sl 1 (us p.see),.sl 1 (mvR p.xN),.sl 1 (cdR p.code)]:=by rw [<- hv.fe]; rfl
 have hF8:=hv.hF;have hA4:=hv.hA;unfold pF.d pF.cells at hP;simp only at hP;clear hs;generalize sS p.see (zL p (n % 4)) (n % 4+1)= rs at *
 have hSl:∀ t,t<n % 4+1->yU Tryz.prog 30 [.agg [.int .i64 (p.see.length:Int),.int .i64 (F':Int),.int .i64 ((n % 4+1:Nat):Int),.sl 2 (uE rs)],.int .i64 (t:Int)] (.tup [(qJ rs (yM rs.length t) p.see.length F').d,.int .i64 0]):=fun t ht=>by have:=aLc ⟨p.see.length,F',((n % 4+1:Nat):Int),rs⟩ t;unfold fZ at this;rw [if_neg (by simpa using jO ok),if_neg (by show ¬ ((t:Int)<0\/((n % 4+1:Nat):Int)<=(t:Int)); omega)] at this;exact this
 have hmd:∀ t,∃ V R,(qJ rs (yM rs.length t) p.see.length F').d = .agg [.int .i64 ((yM rs.length t).length:Int),.sl 1 V,.sl 1 R]:=fun t=>⟨_,_,rfl⟩;have hcl:p.code.length<=2000000:=sm.code;rw [hD] at hF hR hP ⊢;refine xX.xQ mixed Tryz.func8 k8 (by simp) fun hf=>?_;simp only [simprocAttr,-ZA,↓zU,↓zD,zV,zT,zW];refine .go (cq hA) ?_;simp only [simprocAttr,-ZA,↓zU,↓zD,zV,zT,zW];refine .go (cq hF) ?_;simp only [simprocAttr,-ZA,↓zU,↓zD,zV,zT,zW,xR,c6'];refine .go (cq hR) ?_;simp only [simprocAttr,-ZA,↓zU,↓zD,zV,zT,zW,hz',e1,e2,e3]
 (repeat refine sd ?_)
 refine .go (cq hP) ?_;simp only [simprocAttr,-ZA,↓zU,↓zD,zV,zT,zW]
 (repeat refine sd ?_)
 refine xW (fun t:Nat=>[(55,.int .i64 t),(54,.int .i64 ((n % 4+1:Nat):Int)),(6,.ref 1 4 0 0),(5,.int .i64 ((n % 4+1:Nat):Int)),(2,.ref 0 5 0 0)])
  (fun _=>⟨2,[(1,⟨4,[[.int .i64 p.see.length,.int .i64 F',.int .i64 ((n % 4+1:Nat):Int),.sl 2 (uE rs)]]⟩),(0,⟨5,[[.int .i64 F',.sl 1 (us p.init),.sl 1 (us p.see),.sl 1 (mvR p.xN),.sl 1 (cdR p.code)]]⟩)]⟩)
  (fun t=>t<=n % 4+1) (fun t=>n % 4+1-t) 0 (Nat.zero_le _) ?_ ?_
 ·(refine xH.same ?_; simp [xO,Fr.get])
 intro t ht;refine xP mixed ?_;by_cases htT:t<n % 4+1
 case pos=>
  have hd:((t:Int)<((n % 4+1:Nat):Int)):=by omega
  have hSl:=hSl t htT;have hV:=hV t htT;obtain⟨V,R,hm⟩:=hmd t;rw [hm] at hSl hV;simp only [simprocAttr,-ZA,↓zU,↓zD,zV,zT,zW,hd]
  (repeat refine sd ?_)
  refine .go (cq hSl) ?_;simp only [simprocAttr,-ZA,↓zU,↓zD,zV,zT,zW,xR]
  (repeat refine sd ?_)
  refine xW (fun a:Nat=>[(69,.int .i64 a),(68,.int .i64 p.see.length),(67,.sl 1 (us p.see)),(55,.int .i64 t),(54,.int .i64 ((n % 4+1:Nat):Int)),(9,.ref 2 3 0 0),(6,.ref 1 4 0 0),(5,.int .i64 ((n % 4+1:Nat):Int)),(2,.ref 0 5 0 0)])
   (fun _=>⟨3,[(2,⟨3,[[.int .i64 ((yM rs.length t).length:Int),.sl 1 V,.sl 1 R]]⟩),(1,⟨4,[[.int .i64 p.see.length,.int .i64 F',.int .i64 ((n % 4+1:Nat):Int),.sl 2 (uE rs)]]⟩),(0,⟨5,[[.int .i64 F',.sl 1 (us p.init),.sl 1 (us p.see),.sl 1 (mvR p.xN),.sl 1 (cdR p.code)]]⟩)]⟩)
   (fun a=>a<=p.see.length) (fun a=>p.see.length-a) 0 (Nat.zero_le _) ?_ ?_
  ·(refine xH.same ?_; simp [xO,Fr.get])
  intro a ha;refine xP mixed ?_;by_cases hal:a<p.see.length
  case neg=>
   have hd2:¬ ((a:Int)<(p.see.length:Int)):=by omega
   simp only [simprocAttr,-ZA,↓zU,↓zD,zV,zT,zW,hd2]
   (repeat refine sd ?_)
   refine⟨t+1,by omega,?_,by omega⟩
   (refine xH.ren [] [1,0] (by simp) (by simp) (by decide) ?_; simp only [yZ,vwL,vw,vwF,sw,St.get,St.look,Fr.get,simprocAttr,-ZA,exists_eq_left',ne_eq,zR,zQ (show t<=1000000000 by omega)])
  have hd2:((a:Int)<(p.see.length:Int)):=by omega
  have hV:=hV a hal;have hg:=zH p.see hal;generalize p.see.getD a 0=m at *;simp only [simprocAttr,-ZA,↓zU,↓zD,zV,zT,zW,hd2,xR,hg]
  (repeat refine sd ?_)
  refine xW (fun x:Nat=>[(76,.int .i64 x),(75,.int .i64 F'),(69,.int .i64 a),(68,.int .i64 p.see.length),(67,.sl 1 (us p.see)),(55,.int .i64 t),(54,.int .i64 ((n % 4+1:Nat):Int)),(12,.int .u64 (ui m)),(11,.int .i64 a),(9,.ref 2 3 0 0),(6,.ref 1 4 0 0),(5,.int .i64 ((n % 4+1:Nat):Int)),(2,.ref 0 5 0 0)])
   (fun _=>⟨3,[(2,⟨3,[[.int .i64 ((yM rs.length t).length:Int),.sl 1 V,.sl 1 R]]⟩),(1,⟨4,[[.int .i64 p.see.length,.int .i64 F',.int .i64 ((n % 4+1:Nat):Int),.sl 2 (uE rs)]]⟩),(0,⟨5,[[.int .i64 F',.sl 1 (us p.init),.sl 1 (us p.see),.sl 1 (mvR p.xN),.sl 1 (cdR p.code)]]⟩)]⟩)
   (fun x=>x<=F') (fun x=>F'-x) 0 (Nat.zero_le _) ?_ ?_
  ·(refine xH.same ?_; simp [xO,Fr.get])
  intro x hx;refine xP mixed ?_;by_cases hxl:x<F'
  case neg=>
   have hd3:¬ ((x:Int)<(F':Int)):=by omega
   simp only [simprocAttr,-ZA,↓zU,↓zD,zV,zT,zW,hd3]
   (repeat refine sd ?_)
   refine⟨a+1,by omega,?_,by omega⟩
   (refine xH.same ?_; simp only [xO,Fr.get,simprocAttr,-ZA,zS])
   exact zQ (by omega)
  have hd3:((x:Int)<(F':Int)):=by omega
  have hbit:=aJ8 (m:=m) (show x<64 by omega)
  cases hb:m.getLsbD x with
  | false=>
   rw [hb] at hbit;simp only [simprocAttr,-ZA,↓zU,↓zD,zV,zT,zW,hd3,hbit]
   (repeat refine sd ?_)
   refine⟨x+1,by omega,?_,by omega⟩
   (refine xH.same ?_; simp only [xO,Fr.get,simprocAttr,-ZA,zS])
   exact zQ (by omega)
  | true=>
   rw [hb] at hbit;have hV:=hV x hxl hb;unfold bX1 at hV;have c1:=aNu x;have c2:=aSa a (wZ x);have c3:=bYk (wZ x);have c4:=aSa a (aQc (wZ x));have c5:=bPt (rH a (wZ x)) (rH a (aQc (wZ x)));generalize orA (rH a (wZ x)) (rH a (aQc (wZ x)))= g1 at *;generalize rH a (aQc (wZ x))= g2 at *;generalize aQc (wZ x)= g3 at *;generalize rH a (wZ x)= g4 at *;generalize wZ x=g5 at *;simp only [simprocAttr,-ZA,↓zU,↓zD,zV,zT,zW,hd3,hbit]
   (repeat refine sd ?_)
   refine .go (cq c1) ?_;simp only [simprocAttr,-ZA,↓zU,↓zD,zV,zT,zW];refine .go (cq c2) ?_;simp only [simprocAttr,-ZA,↓zU,↓zD,zV,zT,zW];refine .go (cq c1) ?_;simp only [simprocAttr,-ZA,↓zU,↓zD,zV,zT,zW];refine .go (cq c3) ?_;simp only [simprocAttr,-ZA,↓zU,↓zD,zV,zT,zW];refine .go (cq c4) ?_;simp only [simprocAttr,-ZA,↓zU,↓zD,zV,zT,zW];refine .go (cq c5) ?_;simp only [simprocAttr,-ZA,↓zU,↓zD,zV,zT,zW];refine .go (cq hV) ?_;simp only [simprocAttr,-ZA,↓zU,↓zD,zV,zT,zW];refine⟨x+1,by omega,?_,by omega⟩
   (refine xH.same ?_; simp only [xO,Fr.get,simprocAttr,-ZA,zS])
   exact zQ (by omega)
 have hd:¬ ((t:Int)<((n % 4+1:Nat):Int)):=by omega
 simp only [simprocAttr,-ZA,↓zU,↓zD,zV,zT,zW,hd,yE]
 (repeat refine sd ?_)
 refine .go (xX.bWz (objs':=[(2,⟨5,[[.int .i64 F',.sl 1 (us p.init),.sl 1 (us p.see),.sl 1 (mvR p.xN),.osl 3 1 p.code.length]]⟩),(0,⟨5,[[.int .i64 F',.sl 1 (us p.init),.sl 1 (us p.see),.sl 1 (mvR p.xN),.sl 1 (cdR p.code)]]⟩)]) (fun j=>j≠3) hQ
  ⟨Seen.agg ⟨Seen.pure rfl,Seen.pure (by simp [D.xG]),Seen.pure (by simp [D.xG]),Seen.pure (by simp [D.xG]),aJb (by simp [St.get,St.look]) (by simp),trivial⟩,Seen.pure rfl,trivial⟩ fun k o hk=>?_) ?_
 ·by_cases k2:k=2
  ·subst k2;exact⟨by decide,by rw [<- hk]; rfl⟩
  by_cases k0:k=0
  ·subst k0;exact⟨by decide,by rw [<- hk]; rfl⟩
  rw [xY,if_neg (by omega),xY,if_neg (by omega)] at hk;cases hk
 simp only [simprocAttr,-ZA,↓zU,↓zD,zV,zT,zW]
 (repeat refine sd ?_)
 have hq:((qs.length:Int) != (p.init.length:Int))= false:=by rw [hql]; simp
 simp only [simprocAttr,-ZA,↓zU,↓zD,zV,zT,zW,yD,xR,hq]
 refine xW (fun i:Nat=>[(134,.int .i64 i),(133,.int .i64 qs.length),(132,.sl 2 (uE qs)),(2,.ref 0 5 0 0)])
  (fun _=>⟨1,[(0,⟨5,[[.int .i64 F',.sl 1 (us p.init),.sl 1 (us p.see),.sl 1 (mvR p.xN),.sl 1 (cdR p.code)]]⟩)]⟩)
  (fun i=>i<=qs.length) (fun i=>qs.length-i) 0 (Nat.zero_le _) ?_ ?_
 ·(refine xH.ren [] [0] (by simp) (by simp) (by decide) ?_; simp only [yZ,vwL,vw,vwF,sw,St.get,St.look,Fr.get,simprocAttr,-ZA,exists_eq_left',ne_eq,zR])
 intro i hi;refine xP mixed ?_;by_cases h:i<qs.length
 case neg=>
  have hd2:¬ ((i:Int)<(qs.length:Int)):=by omega
  simp only [simprocAttr,-ZA,↓zU,↓zD,zV,zT,zW,hd2];exact .dv
 have hd2:((i:Int)<(qs.length:Int)):=by omega
 have hip:i<p.init.length:=by omega
 obtain⟨L,g1⟩:=hqg i hip;have g4:=zH p.init hip;generalize p.init.getD i 0=y at *;generalize hcs:List.replicate (n % 4+1) y=cs at *;simp only [simprocAttr,-ZA,↓zU,↓zD,zV,zT,zW,hd2,yD,xR,g1]
 (repeat refine sd ?_)
 refine xW (fun j:Nat=>[(142,.int .i64 j),(141,.int .i64 cs.length),(140,.sl 1 (us cs)),(134,.int .i64 i),(133,.int .i64 qs.length),(132,.sl 2 (uE qs)),(19,.int .i64 i),(2,.ref 0 5 0 0)])
  (fun _=>⟨1,[(0,⟨5,[[.int .i64 F',.sl 1 (us p.init),.sl 1 (us p.see),.sl 1 (mvR p.xN),.sl 1 (cdR p.code)]]⟩)]⟩)
  (fun j=>j<=cs.length) (fun j=>cs.length-j) 0 (Nat.zero_le _) ?_ ?_
 ·(refine xH.ren [] [0] (by simp) (by simp) (by decide) ?_; simp only [yZ,vwL,vw,vwF,sw,St.get,St.look,Fr.get,simprocAttr,-ZA,exists_eq_left',ne_eq,zR])
 intro j hj;refine xP mixed ?_;by_cases h2:j<cs.length
 case neg=>
  have hd3:¬ ((j:Int)<(cs.length:Int)):=by omega
  simp only [simprocAttr,-ZA,↓zU,↓zD,zV,zT,zW,hd3]
  (repeat refine sd ?_)
  refine⟨i+1,h,?_,by omega⟩
  (refine xH.same ?_; simp only [xO,Fr.get,simprocAttr,-ZA,zS])
  exact zQ (by omega)
 have hd3:((j:Int)<(cs.length:Int)):=by omega
 have g5:=zH cs h2;have g6:cs.getD j 0=y:=by rw [<- hcs]; rw [<- hcs,List.length_replicate] at h2; simp [List.getD,h2]
 rw [g6] at g5;have hcl2:cs.length<=10:=by rw [<- hcs,List.length_replicate]; omega
 simp only [simprocAttr,-ZA,↓zU,↓zD,zV,zT,zW,hd3,xR,g5,g4]
 (repeat refine sd ?_)
 refine⟨j+1,h2,?_,by omega⟩
 (refine xH.same ?_; simp only [xO,Fr.get,simprocAttr,-ZA,zS])
 exact zQ (by omega)
end Go.Pd
